/- Pipes, part S: the law PipesFirst. -/
import Derived.Test.YtpnnadojhacjiaaPiR
namespace Go.Proofs.Ytpnnadojhacjiaa
open Go Go.Sx
set_option maxRecDepth 100000
set_option maxHeartbeats 4000000
set_option linter.unusedVariables false
set_option linter.unusedSimpArgs false

theorem Own.give {sz n : Nat} {a : Option Addr} {cap : Nat} {C L : List Value} (h : Own sz n a cap C L) {D : World → Prop} : Ent ⟨D, orow a C⟩ ⟨fun w => D w ∧ RowAt w a L, []⟩ := by
  simpa using Own.share h (r1 := []) (r2 := []) (D := D)

theorem Ent.nilmid {D : World → Prop} {rs rs' : List (Nat × Row)} : Ent ⟨D, (rs ++ []) ++ rs'⟩ ⟨D, rs ++ rs'⟩ := by
  rw [List.append_nil]
  exact Ent.refl _

def intV (x : Int) : Value := .int .i64 x

/-- A slice of numbers. -/
abbrev Ns (w : World) (h : Hd) (l : List Int) : Prop := RowAt w h.a (l.map intV)

theorem int_one {l : List Int} : ∀ v ∈ l.map intV, oneCell v = true := by
  intro v hv
  obtain ⟨x, _, rfl⟩ := List.mem_map.1 hv
  rfl

/-- A new slice of numbers is handed back. -/
def RelN (l : List Int) (v : Value) (F : Fx) : Prop := ∃ h : Hd, v = h.v l.length ∧ h.Ok l.length ∧ F = ⟨fun w => Ns w h l, []⟩

theorem removed_spec (h : Hd) (l : List Int) (hh : h.Ok l.length) (hn : l.length ≤ 100000) (n : Int) :
    PureSpec Try.prog 19 [h.v l.length, .int .i64 n] (fun w => Ns w h l) (RelN (l.filter (fun x => iNe x n))) := by
  refine PureSpec.of_xc tabOk Try.func19 rfl (by decide) (n := Try.f19.ntmps - 2) rfl rfl fun w0 av => ?_
  conv => whnf
  refine XStop.loop tabOk (ι := Nat × List Int × Option Addr × Nat × List Value) ([5, 6] ++ List.range' 7 20)
    (fun x => x.1 ≤ l.length ∧ x.2.1 = (l.take x.1).filter (fun y => iNe y n) ∧ Own 1 x.2.1.length x.2.2.1 x.2.2.2.1 x.2.2.2.2 (x.2.1.map intV))
    (fun x => [(5, .v (.slice x.2.2.1 x.2.1.length x.2.2.2.1)), (6, .v (.int .i64 (x.1 : Int)))]) (fun x => []) (fun x => ⟨fun w => Ns w h l, orow x.2.2.1 x.2.2.2.2⟩)
    (fun x => l.length - x.1) (0, [], none, 0, []) ⟨Nat.zero_le _, by simp, Own.nil 1⟩ ?_ rfl (Ent.refl _) fun x hx => ?_
  · conv => whnf
    repeat (first | exact FLe.nil | refine FLe.any ?_ | refine FLe.cons ?_)
  obtain ⟨i, m, a, cp, C⟩ := x
  obtain ⟨hi, hm, hO⟩ := hx
  dsimp only at hi hm hO ⊢
  have hml : m.length ≤ i := by
    rw [hm]
    exact Nat.le_trans (List.length_filter_le _ _) (by simp; omega)
  conv => whnf
  refine XIf.split (fun hlt => ?_) (fun hlt => ?_)
  · conv => whnf
    have hlt' : i < l.length := by
      have : (i : Int) < l.length := by simpa [iLt_eq] using hlt
      omega
    have hnext : ((l.take (i + 1)).filter (fun y => iNe y n)) = if iNe l[i] n then m ++ [l[i]] else m := by
      rw [hm, List.take_succ_eq_append_getElem hlt', List.filter_append]
      split <;> simp [*]
    refine XVal.of_read (XRead.index tabOk (t := 55) rfl rfl rfl (by omega) (by omega) hh.nil fun ad had => ?_)
    conv => whnf
    refine XVal.of_read (XRead.load tabOk (t := 3) rfl rfl (ad := ad) (k := i * 1) (L := l.map intV) (v := .int .i64 l[i]) (Sees.fact fun w hw => had ▸ hw) rfl (by simp [hlt', intV]) ?_)
    conv => whnf
    refine XIf.split (fun hne => ?_) (fun hne => ?_)
    · rw [if_pos hne] at hnext
      conv => whnf
      refine XVal.of_read (XRead.index tabOk (t := 55) rfl rfl rfl (by omega) (by omega) hh.nil fun ad2 had2 => ?_)
      conv => whnf
      refine XVal.of_read (XRead.load tabOk (t := 3) rfl rfl (ad := ad2) (k := i * 1) (L := l.map intV) (v := .int .i64 l[i]) (Sees.fact fun w hw => had2 ▸ hw) rfl (by simp [hlt', intV]) ?_)
      conv => whnf
      refine XVal.build tabOk (t := 55) rfl rfl rfl [.int .i64 l[i]] rfl rfl (by simp [Value.cells]) (by decide) fun b => ?_
      conv => whnf
      refine XVal.ent (F' := ⟨fun w => Ns w h l, [] ++ orow a C ++ [(b, Row.c [.int .i64 l[i]])]⟩) (Ent.refl _) ?_
      refine XVal.append tabOk (t := 55) (xt := 55) rfl rfl rfl rfl rfl rfl (r1 := []) (r2 := [(b, Row.c [.int .i64 l[i]])]) (M := [.int .i64 l[i]]) hO (Sees.row (by simp)) rfl (by simp [oneCell]) (by omega) (by simp; omega) fun a' cap' C' hO' => ?_
      conv => whnf
      refine ⟨(i + 1, m ++ [l[i]], a', cap', C'), ⟨⟨hlt', hnext.symm, by simpa [intV] using hO'⟩, by dsimp only; omega⟩, ?_, ?_, ?_⟩
      · conv => whnf
        refine ⟨?_, rfl⟩
        repeat (first | exact FLe.nil | refine FLe.any ?_ | refine FLe.cons ?_ | refine FLe.eq (by rw [wrap_i64 (by omega)]; rfl) ?_ | refine FLe.eq (by simp) ?_)
      · conv => whnf
        exact trivial
      · exact Ent.of_le ⟨by simp, fun w h => h⟩
    · rw [if_neg (by simp [hne])] at hnext
      conv => whnf
      refine ⟨(i + 1, m, a, cp, C), ⟨⟨hlt', hnext.symm, hO⟩, by dsimp only; omega⟩, ?_, ?_, ?_⟩
      · conv => whnf
        refine ⟨?_, rfl⟩
        repeat (first | exact FLe.nil | refine FLe.any ?_ | refine FLe.cons ?_ | refine FLe.eq (by rw [wrap_i64 (by omega)]; rfl) ?_)
      · conv => whnf
        exact trivial
      · exact Ent.refl _
  · conv => whnf
    have : i = l.length := by
      have : ¬ (i : Int) < l.length := by simpa [iLt_eq] using hlt
      omega
    subst this
    have hm' : m = l.filter (fun y => iNe y n) := by rw [hm]; simp
    subst hm'
    refine ⟨⟨fun w => Ns w ⟨a, cp⟩ (l.filter (fun y => iNe y n)), []⟩, ?_, ⟨a, cp⟩, rfl, hO.hd, rfl⟩
    exact Ent.trans (Own.give hO) (Ent.bare fun w hw => hw.2)

theorem pops_cons0 {m0 m1 ts : List Int} {t : Int} (h : m0.head? = some t) : pops (m0, m1) (t :: ts) = pops (m0.tail, m1) ts := by simp [pops, pop, h]
theorem pops_cons1 {m0 m1 ts : List Int} {t : Int} (h0 : m0.head? ≠ some t) (h1 : m1.head? = some t) : pops (m0, m1) (t :: ts) = pops (m0, m1.tail) ts := by simp [pops, pop, h0, h1]
theorem pops_none {m0 m1 ts : List Int} {t : Int} (h0 : m0.head? ≠ some t) (h1 : m1.head? ≠ some t) : pops (m0, m1) (t :: ts) = none := by simp [pops, pop, h0, h1]

theorem pops_len : ∀ {ts : List Int} {q q' : List Int × List Int}, pops q ts = some q' → ts.length + q'.1.length + q'.2.length = q.1.length + q.2.length
  | [], q, q', h => by
    simp [pops] at h
    subst h
    simp
  | t :: ts, q, q', h => by
    simp only [pops] at h
    split at h
    · rename_i q1 h1
      have := pops_len h
      unfold pop at h1
      split at h1
      · rename_i h2
        cases h1
        have : q.1 ≠ [] := by intro he; rw [he] at h2; cases h2
        have := List.length_pos_iff.2 this
        simp at *
        omega
      · split at h1
        · rename_i h2
          cases h1
          have : q.2 ≠ [] := by intro he; rw [he] at h2; cases h2
          have := List.length_pos_iff.2 this
          simp at *
          omega
        · cases h1
    · cases h

theorem head_at {m : List Int} (h : 0 < m.length) : m.head? = some m[0] := by
  rw [List.head?_eq_getElem?, List.getElem?_eq_getElem h]

theorem head_none {m : List Int} {t : Int} (h : m.length = 0) : m.head? ≠ some t := by
  rw [List.eq_nil_of_length_eq_zero h]
  simp

theorem Ns.tail {w : World} {j : Hd} {m : List Int} (h : Ns w j m) (hj : j.Ok m.length) : Ns w ⟨cutA j.a 1 j.c 1, j.c - 1⟩ m.tail := by
  have := RowAt.cut (size := 1) h (l := 1) (hi := m.length) (m := j.c)
  rcases Nat.eq_zero_or_pos m.length with h0 | h0
  · rw [List.eq_nil_of_length_eq_zero h0]
    exact RowAt.none' _
  · have := this ⟨h0, hj.cap⟩
    have e : ((m.map intV).drop (1 * 1)).take ((m.length - 1) * 1) = m.tail.map intV := by
      rw [← List.map_drop, ← List.map_take]
      congr 1
      cases m with
      | nil => rfl
      | cons a r => simp
    rw [e] at this
    exact this

theorem first_walk (h : Hd) (l : List (Stp × Hd)) (hh : h.Ok l.length) (ho : StpOk l) (hn : l.length ≤ 9223372036854775807) :
    PureSpec Try.prog 5 [h.v l.length] (fun w => StpAt w h l) (fun v F => v = .bool true) := by
  refine PureSpec.of_xc tabOk Try.func5 rfl (by decide) (n := Try.f5.ntmps - 1) rfl rfl fun w0 av => ?_
  conv => whnf
  refine XCall.val awake_spec (fun _ _ => trivial) (fun v D hv => ?_)
  subst hv
  conv => whnf
  refine XCall.val (few_spec h l hh hn) (fun w hw => hw.1) (fun v D hv => ?_)
  subst hv
  conv => whnf
  refine XIf.split (fun hf => ?_) (fun hf => ?_)
  · conv => whnf
    exact ⟨_, Ent.refl _, rfl⟩
  conv => whnf
  have hf' : few (l.map (·.1)) = true := by simpa using hf
  obtain ⟨hlen, hdat⟩ := few_all hf'
  have hl40 : l.length ≤ 40 := by simpa using hlen
  have hs200 : ∀ q ∈ l, q.1.req.data.length ≤ 200 := fun q hq => hdat q.1 (List.mem_map.2 ⟨q, hq, rfl⟩)
  intro b1
  conv => whnf
  intro b2
  conv => whnf
  refine XStop.loop tabOk (ι := Nat × Pipe × PH × Hd × Hd) ([5, 6, 7, 8, 9, 10, 11] ++ List.range' 17 120)
    (fun x => x.1 ≤ l.length ∧ x.2.1.valid = true ∧ x.2.1.wait.length ≤ x.1 ∧ x.2.2.1.Ok x.2.1 ∧ x.2.2.2.1.Ok x.2.1.qs.1.length ∧ x.2.2.2.2.Ok x.2.1.qs.2.length)
    (fun x => [(5, .v (.int .i64 (x.1 : Int)))]) (fun x => [x.2.2.1.cells x.2.1, [x.2.2.2.1.v x.2.1.qs.1.length, x.2.2.2.2.v x.2.1.qs.2.length]])
    (fun x => ⟨fun w => StpAt w h l ∧ x.2.2.1.By x.2.1 w ∧ Ns w x.2.2.2.1 x.2.1.qs.1 ∧ Ns w x.2.2.2.2 x.2.1.qs.2, []⟩)
    (fun x => l.length - x.1) (0, Pipe.zero, PH.nil, Hd.nil, Hd.nil) ⟨Nat.zero_le _, zero_valid, Nat.le_refl _, PH.nil_ok, Hd.nil_ok, Hd.nil_ok⟩ ?_ rfl (Ent.bare fun w hw => ⟨hw, PH.nil_by w, rfl, rfl⟩) fun x hx => ?_
  · conv => whnf
    repeat (first | exact FLe.nil | refine FLe.any ?_ | refine FLe.cons ?_)
  obtain ⟨i, p, hp, k0, k1⟩ := x
  obtain ⟨hi, hv, hwl, hpo, hk0, hk1⟩ := hx
  dsimp only at hi hv hwl hpo hk0 hk1 ⊢
  obtain ⟨hs, hrd, hwr⟩ := valid_iff.1 hv
  have hpf : p.Few := hs.few hwl (by omega)
  conv => whnf
  refine XIf.split (fun hlt => ?_) (fun hlt => ?_)
  · conv => whnf
    have hlt' : i < l.length := by
      have : (i : Int) < l.length := by simpa [iLt_eq] using hlt
      omega
    refine XVal.of_read (XRead.index tabOk (t := 22) rfl rfl rfl (by omega) (by omega) hh.nil fun ad had => ?_)
    conv => whnf
    refine XVal.of_read (XRead.loads tabOk (t := 39) rfl rfl (ad := ad) (k := i * 5) (L := stpCells l) (fun w hst => had ▸ hst.now.1.1) rfl (stpCells_get l hlt') rfl ?_)
    conv => whnf
    intro b3
    conv => whnf
    have hok := ho _ (List.getElem_mem hlt')
    have sp := step_spec p hp hpo hpf (by omega) l[i].1 l[i].2 hok (by have := hs200 _ (List.getElem_mem hlt'); omega)
    have hsv := step_valid hv l[i].1
    have hps := step_pops hv l[i].1
    generalize p.step l[i].1 = q at sp hsv hps
    refine XCall.pure sp (fun w h => ⟨h.2.1, h.1.2 _ (List.getElem_mem hlt')⟩) ?_
    rintro v F ⟨hq1, ka, la, rfl, hqo, hka, hla, hoa, rfl⟩
    conv => whnf
    intro b4
    conv => whnf
    refine XIf.split (fun he => ?_) (fun he => ?_)
    · conv => whnf
      refine ⟨(i + 1, p, hp, k0, k1), ⟨⟨hlt', hv, by dsimp only; omega, hpo, hk0, hk1⟩, by dsimp only; omega⟩, ?_, ?_, ?_⟩
      · conv => whnf
        refine ⟨?_, rfl⟩
        repeat (first | exact FLe.nil | refine FLe.any ?_ | refine FLe.cons ?_ | refine FLe.eq (by rw [wrap_i64 (by omega)]; rfl) ?_)
      · conv => whnf
        exact ⟨⟨rfl, rfl⟩, ⟨rfl, rfl⟩, trivial⟩
      · exact Ent.of_le ⟨by simp [Fx.and], fun w hw => hw.1⟩
    conv => whnf
    have he' : q.2.2 = 0 := by simpa [iNe_eq] using he
    obtain ⟨hqv, hql⟩ := hsv he'
    replace hps := hps he'
    have hl0 : p.qs.1.length ≤ 40 := by have := rq_len p.wait; show (rq p.wait false).length ≤ 40; omega
    have hl1 : p.qs.2.length ≤ 40 := by have := rq_len p.wait; show (rq p.wait true).length ≤ 40; omega
    refine XIf.split (fun hd => ?w1) (fun hd => ?w0)
    case' w1 =>
      conv => whnf
      refine XIf.split (fun h2 => ?drp1) (fun h2 => ?ndrp1)
      case' drp1 =>
        have hnq : nextQ p.qs l[i].1 = (p.qs.1.filter (fun x => iNe x l[i].1.req.task), p.qs.2.filter (fun x => iNe x l[i].1.req.task)) := by
          unfold nextQ
          rw [if_pos h2]
        conv => whnf
        refine XStop.draw tabOk mixed rfl rfl ?_
        conv => whnf
        repeat' (first
          | (refine And.intro ?_ ?_ <;> conv => whnf)
          | (refine XHeld.same rfl ?_; conv => whnf)
          | (refine XHeld.row rfl ?_; conv => whnf)
          | (refine XHeld.call rfl ?_; conv => whnf)
          | (refine XKeep.of ?_; conv => whnf)
          | (refine XSame.of ?_; conv => whnf)
          | (refine XCall.pure (removed_spec k0 p.qs.1 hk0 (by omega) l[i].1.req.task) (fun w h => h.1.2.2.1) ?_; rintro v F ⟨j0, rfl, hj0, rfl⟩; conv => whnf)
          | (refine XCall.pure (removed_spec k0 p.qs.1 hk0 (by omega) l[i].1.req.task) (fun w h => h.1.1.2.2.1) ?_; rintro v F ⟨j0, rfl, hj0, rfl⟩; conv => whnf)
          | (refine XCall.pure (removed_spec k1 p.qs.2 hk1 (by omega) l[i].1.req.task) (fun w h => h.1.2.2.2) ?_; rintro v F ⟨j1, rfl, hj1, rfl⟩; conv => whnf)
          | (refine XCall.pure (removed_spec k1 p.qs.2 hk1 (by omega) l[i].1.req.task) (fun w h => h.1.1.2.2.2) ?_; rintro v F ⟨j1, rfl, hj1, rfl⟩; conv => whnf))
        refine XStop.ent (F' := ⟨fun w => (StpAt w h l ∧ hq1.By q.1 w ∧ AnAt w ka la) ∧ Ns w j0 (p.qs.1.filter (fun x => iNe x l[i].1.req.task)) ∧ Ns w j1 (p.qs.2.filter (fun x => iNe x l[i].1.req.task)), []⟩) (Ent.of_le ⟨by simp [Fx.and], fun w hw => ⟨⟨hw.1.1.1.1, hw.1.1.2.1, hw.1.1.2.2⟩, hw.1.2, hw.2⟩⟩) ?_
        rw [hnq] at hps
        have hm0 : (p.qs.1.filter (fun x => iNe x l[i].1.req.task)).length ≤ 41 := Nat.le_trans (List.length_filter_le _ _) (by omega)
        have hm1 : (p.qs.2.filter (fun x => iNe x l[i].1.req.task)).length ≤ 41 := Nat.le_trans (List.length_filter_le _ _) (by omega)
        generalize p.qs.1.filter (fun x => iNe x l[i].1.req.task) = m0 at *
        generalize p.qs.2.filter (fun x => iNe x l[i].1.req.task) = m1 at *
        obtain ⟨i0, hi0⟩ : ∃ i0 : Nat × List Int × List Int × Hd × Hd, i0 = (0, m0, m1, j0, j1) := ⟨_, rfl⟩
      case' ndrp1 =>
        conv => whnf
        refine XSame.of ?_
        conv => whnf
        refine XIf.split (fun h3 => ?ask1) (fun h3 => ?non1)
      case' ask1 =>
        conv => whnf
        refine XStop.draw tabOk mixed rfl rfl ?_
        conv => whnf
        repeat' (first
          | (refine And.intro ?_ ?_ <;> conv => whnf)
          | (refine XHeld.same rfl ?_; conv => whnf)
          | (refine XHeld.row rfl ?_; conv => whnf)
          | (refine XHeld.call rfl ?_; conv => whnf)
          | (refine XKeep.of ?_; conv => whnf)
          | (refine XSame.of ?_; conv => whnf)
          | (refine XVal.build tabOk (t := 55) rfl rfl rfl [] rfl rfl (by simp) (by decide) fun b0 => ?_; conv => whnf)
          | (refine XVal.build tabOk (t := 55) rfl rfl rfl [.int .i64 l[i].1.req.task] rfl rfl (by simp [Value.cells]) (by decide) fun b5 => ?_; conv => whnf)
          | (refine XVal.ent (F' := ⟨fun w => (StpAt w h l ∧ hp.By p w ∧ Ns w k0 p.qs.1 ∧ Ns w k1 p.qs.2) ∧ hq1.By q.1 w ∧ AnAt w ka la, [] ++ orow (some ⟨b0, 0, none⟩) [] ++ []⟩) (Ent.refl _) ?_; refine XVal.append tabOk (t := 55) (xt := 55) rfl rfl rfl rfl rfl rfl (r1 := []) (r2 := []) (C := []) (L := []) (M := p.qs.2.map intV) (Own.full (by simp)) (Sees.fact fun w h => h.1.2.2.2) (by simp) int_one (by omega) (by simp; omega) fun a1 c1 C1 hO1 => ?_; conv => whnf)
          | (refine XVal.ent (F' := ⟨fun w => (StpAt w h l ∧ hp.By p w ∧ Ns w k0 p.qs.1 ∧ Ns w k1 p.qs.2) ∧ hq1.By q.1 w ∧ AnAt w ka la, [] ++ orow (some ⟨b0, 0, none⟩) [] ++ [(b5, Row.c [.int .i64 l[i].1.req.task])]⟩) (Ent.refl _) ?_; refine XVal.append tabOk (t := 55) (xt := 55) rfl rfl rfl rfl rfl rfl (r1 := []) (r2 := [(b5, Row.c [.int .i64 l[i].1.req.task])]) (C := []) (L := []) (M := p.qs.2.map intV) (Own.full (by simp)) (Sees.fact fun w h => h.1.2.2.2) (by simp) int_one (by omega) (by simp; omega) fun a1 c1 C1 hO1 => ?_; conv => whnf)
          | (refine XVal.ent (F' := ⟨fun w => (StpAt w h l ∧ hp.By p w ∧ Ns w k0 p.qs.1 ∧ Ns w k1 p.qs.2) ∧ hq1.By q.1 w ∧ AnAt w ka la, [(b5, Row.c [.int .i64 l[i].1.req.task])] ++ orow (some ⟨b0, 0, none⟩) [] ++ []⟩) (Ent.refl _) ?_; refine XVal.append tabOk (t := 55) (xt := 55) rfl rfl rfl rfl rfl rfl (r1 := [(b5, Row.c [.int .i64 l[i].1.req.task])]) (r2 := []) (C := []) (L := []) (M := p.qs.2.map intV) (Own.full (by simp)) (Sees.fact fun w h => h.1.2.2.2) (by simp) int_one (by omega) (by simp; omega) fun a1 c1 C1 hO1 => ?_; conv => whnf)
          | (refine XVal.ent (F' := ⟨fun w => (StpAt w h l ∧ hp.By p w ∧ Ns w k0 p.qs.1 ∧ Ns w k1 p.qs.2) ∧ hq1.By q.1 w ∧ AnAt w ka la, [] ++ orow (some ⟨b0, 0, none⟩) [] ++ []⟩) (Ent.refl _) ?_; refine XVal.append tabOk (t := 55) (xt := 55) rfl rfl rfl rfl rfl rfl (r1 := []) (r2 := []) (C := []) (L := []) (M := p.qs.1.map intV) (Own.full (by simp)) (Sees.fact fun w h => h.1.2.2.1) (by simp) int_one (by omega) (by simp; omega) fun a1 c1 C1 hO1 => ?_; conv => whnf)
          | (refine XVal.ent (F' := ⟨fun w => (StpAt w h l ∧ hp.By p w ∧ Ns w k0 p.qs.1 ∧ Ns w k1 p.qs.2) ∧ hq1.By q.1 w ∧ AnAt w ka la, [] ++ orow (some ⟨b0, 0, none⟩) [] ++ [(b5, Row.c [.int .i64 l[i].1.req.task])]⟩) (Ent.refl _) ?_; refine XVal.append tabOk (t := 55) (xt := 55) rfl rfl rfl rfl rfl rfl (r1 := []) (r2 := [(b5, Row.c [.int .i64 l[i].1.req.task])]) (C := []) (L := []) (M := p.qs.1.map intV) (Own.full (by simp)) (Sees.fact fun w h => h.1.2.2.1) (by simp) int_one (by omega) (by simp; omega) fun a1 c1 C1 hO1 => ?_; conv => whnf)
          | (refine XVal.ent (F' := ⟨fun w => (StpAt w h l ∧ hp.By p w ∧ Ns w k0 p.qs.1 ∧ Ns w k1 p.qs.2) ∧ hq1.By q.1 w ∧ AnAt w ka la, [(b5, Row.c [.int .i64 l[i].1.req.task])] ++ orow (some ⟨b0, 0, none⟩) [] ++ []⟩) (Ent.refl _) ?_; refine XVal.append tabOk (t := 55) (xt := 55) rfl rfl rfl rfl rfl rfl (r1 := [(b5, Row.c [.int .i64 l[i].1.req.task])]) (r2 := []) (C := []) (L := []) (M := p.qs.1.map intV) (Own.full (by simp)) (Sees.fact fun w h => h.1.2.2.1) (by simp) int_one (by omega) (by simp; omega) fun a1 c1 C1 hO1 => ?_; conv => whnf)
          | (refine XVal.ent (F' := ⟨fun w => (StpAt w h l ∧ hp.By p w ∧ Ns w k0 p.qs.1 ∧ Ns w k1 p.qs.2) ∧ hq1.By q.1 w ∧ AnAt w ka la, [] ++ orow a1 C1 ++ [(b5, Row.c [.int .i64 l[i].1.req.task])]⟩) Ent.nilmid ?_; refine XVal.append tabOk (t := 55) (xt := 55) rfl rfl rfl rfl rfl rfl (r1 := []) (r2 := [(b5, Row.c [.int .i64 l[i].1.req.task])]) (M := [.int .i64 l[i].1.req.task]) hO1 (Sees.row (by simp)) rfl (by simp [oneCell]) (by omega) (by simp; omega) fun a2 c2 C2 hO2 => ?_; conv => whnf)
          | (refine XVal.ent (F' := ⟨fun w => (StpAt w h l ∧ hp.By p w ∧ Ns w k0 p.qs.1 ∧ Ns w k1 p.qs.2) ∧ hq1.By q.1 w ∧ AnAt w ka la, [] ++ orow a1 C1 ++ [(b5, Row.c [.int .i64 l[i].1.req.task])]⟩) (Ent.refl _) ?_; refine XVal.append tabOk (t := 55) (xt := 55) rfl rfl rfl rfl rfl rfl (r1 := []) (r2 := [(b5, Row.c [.int .i64 l[i].1.req.task])]) (M := [.int .i64 l[i].1.req.task]) hO1 (Sees.row (by simp)) rfl (by simp [oneCell]) (by omega) (by simp; omega) fun a2 c2 C2 hO2 => ?_; conv => whnf)
          | (refine XVal.ent (F' := ⟨fun w => (StpAt w h l ∧ hp.By p w ∧ Ns w k0 p.qs.1 ∧ Ns w k1 p.qs.2) ∧ hq1.By q.1 w ∧ AnAt w ka la, [(b5, Row.c [.int .i64 l[i].1.req.task])] ++ orow a1 C1 ++ []⟩) (Ent.refl _) ?_; refine XVal.append tabOk (t := 55) (xt := 55) rfl rfl rfl rfl rfl rfl (r1 := [(b5, Row.c [.int .i64 l[i].1.req.task])]) (r2 := []) (M := [.int .i64 l[i].1.req.task]) hO1 (Sees.row (by simp)) rfl (by simp [oneCell]) (by omega) (by simp; omega) fun a2 c2 C2 hO2 => ?_; conv => whnf))
        all_goals
          have hnq : nextQ p.qs l[i].1 = (p.qs.1, p.qs.2 ++ [l[i].1.req.task]) := by
            unfold nextQ
            rw [if_neg (by simp [h2]), if_pos h3]
            simp [hd]
          have hO3 : Own 1 (p.qs.2 ++ [l[i].1.req.task]).length a2 c2 C2 ((p.qs.2 ++ [l[i].1.req.task]).map intV) := by simpa [intV] using hO2
          first
            | refine XStop.ent (F' := ⟨fun w => (StpAt w h l ∧ hq1.By q.1 w ∧ AnAt w ka la) ∧ Ns w k0 p.qs.1 ∧ Ns w ⟨a2, c2⟩ (p.qs.2 ++ [l[i].1.req.task]), []⟩) (Ent.trans (Own.share (D := fun w => (StpAt w h l ∧ hp.By p w ∧ Ns w k0 p.qs.1 ∧ Ns w k1 p.qs.2) ∧ hq1.By q.1 w ∧ AnAt w ka la) hO2 (r1 := []) (r2 := [(b5, Row.c [.int .i64 l[i].1.req.task])])) (Ent.bare fun w hw => ⟨⟨hw.1.1.1, hw.1.2.1, hw.1.2.2⟩, hw.1.1.2.2.1, by simpa [Ns, intV] using hw.2⟩)) ?_
            | refine XStop.ent (F' := ⟨fun w => (StpAt w h l ∧ hq1.By q.1 w ∧ AnAt w ka la) ∧ Ns w k0 p.qs.1 ∧ Ns w ⟨a2, c2⟩ (p.qs.2 ++ [l[i].1.req.task]), []⟩) (Ent.trans (Own.share (D := fun w => (StpAt w h l ∧ hp.By p w ∧ Ns w k0 p.qs.1 ∧ Ns w k1 p.qs.2) ∧ hq1.By q.1 w ∧ AnAt w ka la) hO2 (r1 := [(b5, Row.c [.int .i64 l[i].1.req.task])]) (r2 := [])) (Ent.bare fun w hw => ⟨⟨hw.1.1.1, hw.1.2.1, hw.1.2.2⟩, hw.1.1.2.2.1, by simpa [Ns, intV] using hw.2⟩)) ?_
          rw [hnq] at hps
          have hm0 : (p.qs.1).length ≤ 41 := by omega
          have hm1 : (p.qs.2 ++ [l[i].1.req.task]).length ≤ 41 := by simp; omega
          have hj0 : k0.Ok p.qs.1.length := hk0
          have hj1 : (⟨a2, c2⟩ : Hd).Ok (p.qs.2 ++ [l[i].1.req.task]).length := hO3.hd
          obtain ⟨i0, hi0⟩ : ∃ i0 : Nat × List Int × List Int × Hd × Hd, i0 = (0, p.qs.1, p.qs.2 ++ [l[i].1.req.task], k0, ⟨a2, c2⟩) := ⟨_, rfl⟩
      case' non1 =>
        conv => whnf
        have hnq : nextQ p.qs l[i].1 = (p.qs.1, p.qs.2) := by
          unfold nextQ
          rw [if_neg (by simp [h2]), if_neg (by simp [h3])]
        refine XStop.ent (F' := ⟨fun w => (StpAt w h l ∧ hq1.By q.1 w ∧ AnAt w ka la) ∧ Ns w k0 p.qs.1 ∧ Ns w k1 p.qs.2, []⟩) (Ent.of_le ⟨by simp [Fx.and], fun w hw => ⟨⟨hw.1.1, hw.2.1, hw.2.2⟩, hw.1.2.2.1, hw.1.2.2.2⟩⟩) ?_
        rw [hnq] at hps
        have hm0 : p.qs.1.length ≤ 41 := by omega
        have hm1 : p.qs.2.length ≤ 41 := by omega
        have hj0 := hk0
        have hj1 := hk1
        generalize p.qs.1 = m0 at *
        generalize p.qs.2 = m1 at *
        generalize k0 = j0 at *
        generalize k1 = j1 at *
        obtain ⟨i0, hi0⟩ : ∃ i0 : Nat × List Int × List Int × Hd × Hd, i0 = (0, m0, m1, j0, j1) := ⟨_, rfl⟩
    case' w0 =>
      conv => whnf
      refine XIf.split (fun h2 => ?drp0) (fun h2 => ?ndrp0)
      case' drp0 =>
        have hnq : nextQ p.qs l[i].1 = (p.qs.1.filter (fun x => iNe x l[i].1.req.task), p.qs.2.filter (fun x => iNe x l[i].1.req.task)) := by
          unfold nextQ
          rw [if_pos h2]
        conv => whnf
        refine XStop.draw tabOk mixed rfl rfl ?_
        conv => whnf
        repeat' (first
          | (refine And.intro ?_ ?_ <;> conv => whnf)
          | (refine XHeld.same rfl ?_; conv => whnf)
          | (refine XHeld.row rfl ?_; conv => whnf)
          | (refine XHeld.call rfl ?_; conv => whnf)
          | (refine XKeep.of ?_; conv => whnf)
          | (refine XSame.of ?_; conv => whnf)
          | (refine XCall.pure (removed_spec k0 p.qs.1 hk0 (by omega) l[i].1.req.task) (fun w h => h.1.2.2.1) ?_; rintro v F ⟨j0, rfl, hj0, rfl⟩; conv => whnf)
          | (refine XCall.pure (removed_spec k0 p.qs.1 hk0 (by omega) l[i].1.req.task) (fun w h => h.1.1.2.2.1) ?_; rintro v F ⟨j0, rfl, hj0, rfl⟩; conv => whnf)
          | (refine XCall.pure (removed_spec k1 p.qs.2 hk1 (by omega) l[i].1.req.task) (fun w h => h.1.2.2.2) ?_; rintro v F ⟨j1, rfl, hj1, rfl⟩; conv => whnf)
          | (refine XCall.pure (removed_spec k1 p.qs.2 hk1 (by omega) l[i].1.req.task) (fun w h => h.1.1.2.2.2) ?_; rintro v F ⟨j1, rfl, hj1, rfl⟩; conv => whnf))
        refine XStop.ent (F' := ⟨fun w => (StpAt w h l ∧ hq1.By q.1 w ∧ AnAt w ka la) ∧ Ns w j0 (p.qs.1.filter (fun x => iNe x l[i].1.req.task)) ∧ Ns w j1 (p.qs.2.filter (fun x => iNe x l[i].1.req.task)), []⟩) (Ent.of_le ⟨by simp [Fx.and], fun w hw => ⟨⟨hw.1.1.1.1, hw.1.1.2.1, hw.1.1.2.2⟩, hw.1.2, hw.2⟩⟩) ?_
        rw [hnq] at hps
        have hm0 : (p.qs.1.filter (fun x => iNe x l[i].1.req.task)).length ≤ 41 := Nat.le_trans (List.length_filter_le _ _) (by omega)
        have hm1 : (p.qs.2.filter (fun x => iNe x l[i].1.req.task)).length ≤ 41 := Nat.le_trans (List.length_filter_le _ _) (by omega)
        generalize p.qs.1.filter (fun x => iNe x l[i].1.req.task) = m0 at *
        generalize p.qs.2.filter (fun x => iNe x l[i].1.req.task) = m1 at *
        obtain ⟨i0, hi0⟩ : ∃ i0 : Nat × List Int × List Int × Hd × Hd, i0 = (0, m0, m1, j0, j1) := ⟨_, rfl⟩
      case' ndrp0 =>
        conv => whnf
        refine XSame.of ?_
        conv => whnf
        refine XIf.split (fun h3 => ?ask0) (fun h3 => ?non0)
      case' ask0 =>
        conv => whnf
        refine XStop.draw tabOk mixed rfl rfl ?_
        conv => whnf
        repeat' (first
          | (refine And.intro ?_ ?_ <;> conv => whnf)
          | (refine XHeld.same rfl ?_; conv => whnf)
          | (refine XHeld.row rfl ?_; conv => whnf)
          | (refine XHeld.call rfl ?_; conv => whnf)
          | (refine XKeep.of ?_; conv => whnf)
          | (refine XSame.of ?_; conv => whnf)
          | (refine XVal.build tabOk (t := 55) rfl rfl rfl [] rfl rfl (by simp) (by decide) fun b0 => ?_; conv => whnf)
          | (refine XVal.build tabOk (t := 55) rfl rfl rfl [.int .i64 l[i].1.req.task] rfl rfl (by simp [Value.cells]) (by decide) fun b5 => ?_; conv => whnf)
          | (refine XVal.ent (F' := ⟨fun w => (StpAt w h l ∧ hp.By p w ∧ Ns w k0 p.qs.1 ∧ Ns w k1 p.qs.2) ∧ hq1.By q.1 w ∧ AnAt w ka la, [] ++ orow (some ⟨b0, 0, none⟩) [] ++ []⟩) (Ent.refl _) ?_; refine XVal.append tabOk (t := 55) (xt := 55) rfl rfl rfl rfl rfl rfl (r1 := []) (r2 := []) (C := []) (L := []) (M := p.qs.2.map intV) (Own.full (by simp)) (Sees.fact fun w h => h.1.2.2.2) (by simp) int_one (by omega) (by simp; omega) fun a1 c1 C1 hO1 => ?_; conv => whnf)
          | (refine XVal.ent (F' := ⟨fun w => (StpAt w h l ∧ hp.By p w ∧ Ns w k0 p.qs.1 ∧ Ns w k1 p.qs.2) ∧ hq1.By q.1 w ∧ AnAt w ka la, [] ++ orow (some ⟨b0, 0, none⟩) [] ++ [(b5, Row.c [.int .i64 l[i].1.req.task])]⟩) (Ent.refl _) ?_; refine XVal.append tabOk (t := 55) (xt := 55) rfl rfl rfl rfl rfl rfl (r1 := []) (r2 := [(b5, Row.c [.int .i64 l[i].1.req.task])]) (C := []) (L := []) (M := p.qs.2.map intV) (Own.full (by simp)) (Sees.fact fun w h => h.1.2.2.2) (by simp) int_one (by omega) (by simp; omega) fun a1 c1 C1 hO1 => ?_; conv => whnf)
          | (refine XVal.ent (F' := ⟨fun w => (StpAt w h l ∧ hp.By p w ∧ Ns w k0 p.qs.1 ∧ Ns w k1 p.qs.2) ∧ hq1.By q.1 w ∧ AnAt w ka la, [(b5, Row.c [.int .i64 l[i].1.req.task])] ++ orow (some ⟨b0, 0, none⟩) [] ++ []⟩) (Ent.refl _) ?_; refine XVal.append tabOk (t := 55) (xt := 55) rfl rfl rfl rfl rfl rfl (r1 := [(b5, Row.c [.int .i64 l[i].1.req.task])]) (r2 := []) (C := []) (L := []) (M := p.qs.2.map intV) (Own.full (by simp)) (Sees.fact fun w h => h.1.2.2.2) (by simp) int_one (by omega) (by simp; omega) fun a1 c1 C1 hO1 => ?_; conv => whnf)
          | (refine XVal.ent (F' := ⟨fun w => (StpAt w h l ∧ hp.By p w ∧ Ns w k0 p.qs.1 ∧ Ns w k1 p.qs.2) ∧ hq1.By q.1 w ∧ AnAt w ka la, [] ++ orow (some ⟨b0, 0, none⟩) [] ++ []⟩) (Ent.refl _) ?_; refine XVal.append tabOk (t := 55) (xt := 55) rfl rfl rfl rfl rfl rfl (r1 := []) (r2 := []) (C := []) (L := []) (M := p.qs.1.map intV) (Own.full (by simp)) (Sees.fact fun w h => h.1.2.2.1) (by simp) int_one (by omega) (by simp; omega) fun a1 c1 C1 hO1 => ?_; conv => whnf)
          | (refine XVal.ent (F' := ⟨fun w => (StpAt w h l ∧ hp.By p w ∧ Ns w k0 p.qs.1 ∧ Ns w k1 p.qs.2) ∧ hq1.By q.1 w ∧ AnAt w ka la, [] ++ orow (some ⟨b0, 0, none⟩) [] ++ [(b5, Row.c [.int .i64 l[i].1.req.task])]⟩) (Ent.refl _) ?_; refine XVal.append tabOk (t := 55) (xt := 55) rfl rfl rfl rfl rfl rfl (r1 := []) (r2 := [(b5, Row.c [.int .i64 l[i].1.req.task])]) (C := []) (L := []) (M := p.qs.1.map intV) (Own.full (by simp)) (Sees.fact fun w h => h.1.2.2.1) (by simp) int_one (by omega) (by simp; omega) fun a1 c1 C1 hO1 => ?_; conv => whnf)
          | (refine XVal.ent (F' := ⟨fun w => (StpAt w h l ∧ hp.By p w ∧ Ns w k0 p.qs.1 ∧ Ns w k1 p.qs.2) ∧ hq1.By q.1 w ∧ AnAt w ka la, [(b5, Row.c [.int .i64 l[i].1.req.task])] ++ orow (some ⟨b0, 0, none⟩) [] ++ []⟩) (Ent.refl _) ?_; refine XVal.append tabOk (t := 55) (xt := 55) rfl rfl rfl rfl rfl rfl (r1 := [(b5, Row.c [.int .i64 l[i].1.req.task])]) (r2 := []) (C := []) (L := []) (M := p.qs.1.map intV) (Own.full (by simp)) (Sees.fact fun w h => h.1.2.2.1) (by simp) int_one (by omega) (by simp; omega) fun a1 c1 C1 hO1 => ?_; conv => whnf)
          | (refine XVal.ent (F' := ⟨fun w => (StpAt w h l ∧ hp.By p w ∧ Ns w k0 p.qs.1 ∧ Ns w k1 p.qs.2) ∧ hq1.By q.1 w ∧ AnAt w ka la, [] ++ orow a1 C1 ++ [(b5, Row.c [.int .i64 l[i].1.req.task])]⟩) Ent.nilmid ?_; refine XVal.append tabOk (t := 55) (xt := 55) rfl rfl rfl rfl rfl rfl (r1 := []) (r2 := [(b5, Row.c [.int .i64 l[i].1.req.task])]) (M := [.int .i64 l[i].1.req.task]) hO1 (Sees.row (by simp)) rfl (by simp [oneCell]) (by omega) (by simp; omega) fun a2 c2 C2 hO2 => ?_; conv => whnf)
          | (refine XVal.ent (F' := ⟨fun w => (StpAt w h l ∧ hp.By p w ∧ Ns w k0 p.qs.1 ∧ Ns w k1 p.qs.2) ∧ hq1.By q.1 w ∧ AnAt w ka la, [] ++ orow a1 C1 ++ [(b5, Row.c [.int .i64 l[i].1.req.task])]⟩) (Ent.refl _) ?_; refine XVal.append tabOk (t := 55) (xt := 55) rfl rfl rfl rfl rfl rfl (r1 := []) (r2 := [(b5, Row.c [.int .i64 l[i].1.req.task])]) (M := [.int .i64 l[i].1.req.task]) hO1 (Sees.row (by simp)) rfl (by simp [oneCell]) (by omega) (by simp; omega) fun a2 c2 C2 hO2 => ?_; conv => whnf)
          | (refine XVal.ent (F' := ⟨fun w => (StpAt w h l ∧ hp.By p w ∧ Ns w k0 p.qs.1 ∧ Ns w k1 p.qs.2) ∧ hq1.By q.1 w ∧ AnAt w ka la, [(b5, Row.c [.int .i64 l[i].1.req.task])] ++ orow a1 C1 ++ []⟩) (Ent.refl _) ?_; refine XVal.append tabOk (t := 55) (xt := 55) rfl rfl rfl rfl rfl rfl (r1 := [(b5, Row.c [.int .i64 l[i].1.req.task])]) (r2 := []) (M := [.int .i64 l[i].1.req.task]) hO1 (Sees.row (by simp)) rfl (by simp [oneCell]) (by omega) (by simp; omega) fun a2 c2 C2 hO2 => ?_; conv => whnf))
        all_goals
          have hnq : nextQ p.qs l[i].1 = (p.qs.1 ++ [l[i].1.req.task], p.qs.2) := by
            unfold nextQ
            rw [if_neg (by simp [h2]), if_pos h3]
            simp [hd]
          have hO3 : Own 1 (p.qs.1 ++ [l[i].1.req.task]).length a2 c2 C2 ((p.qs.1 ++ [l[i].1.req.task]).map intV) := by simpa [intV] using hO2
          first
            | refine XStop.ent (F' := ⟨fun w => (StpAt w h l ∧ hq1.By q.1 w ∧ AnAt w ka la) ∧ Ns w ⟨a2, c2⟩ (p.qs.1 ++ [l[i].1.req.task]) ∧ Ns w k1 p.qs.2, []⟩) (Ent.trans (Own.share (D := fun w => (StpAt w h l ∧ hp.By p w ∧ Ns w k0 p.qs.1 ∧ Ns w k1 p.qs.2) ∧ hq1.By q.1 w ∧ AnAt w ka la) hO2 (r1 := []) (r2 := [(b5, Row.c [.int .i64 l[i].1.req.task])])) (Ent.bare fun w hw => ⟨⟨hw.1.1.1, hw.1.2.1, hw.1.2.2⟩, by simpa [Ns, intV] using hw.2, hw.1.1.2.2.2⟩)) ?_
            | refine XStop.ent (F' := ⟨fun w => (StpAt w h l ∧ hq1.By q.1 w ∧ AnAt w ka la) ∧ Ns w ⟨a2, c2⟩ (p.qs.1 ++ [l[i].1.req.task]) ∧ Ns w k1 p.qs.2, []⟩) (Ent.trans (Own.share (D := fun w => (StpAt w h l ∧ hp.By p w ∧ Ns w k0 p.qs.1 ∧ Ns w k1 p.qs.2) ∧ hq1.By q.1 w ∧ AnAt w ka la) hO2 (r1 := [(b5, Row.c [.int .i64 l[i].1.req.task])]) (r2 := [])) (Ent.bare fun w hw => ⟨⟨hw.1.1.1, hw.1.2.1, hw.1.2.2⟩, by simpa [Ns, intV] using hw.2, hw.1.1.2.2.2⟩)) ?_
          rw [hnq] at hps
          have hm0 : (p.qs.1 ++ [l[i].1.req.task]).length ≤ 41 := by simp; omega
          have hm1 : (p.qs.2).length ≤ 41 := by omega
          have hj0 : (⟨a2, c2⟩ : Hd).Ok (p.qs.1 ++ [l[i].1.req.task]).length := hO3.hd
          have hj1 : k1.Ok p.qs.2.length := hk1
          obtain ⟨i0, hi0⟩ : ∃ i0 : Nat × List Int × List Int × Hd × Hd, i0 = (0, p.qs.1 ++ [l[i].1.req.task], p.qs.2, ⟨a2, c2⟩, k1) := ⟨_, rfl⟩
      case' non0 =>
        conv => whnf
        have hnq : nextQ p.qs l[i].1 = (p.qs.1, p.qs.2) := by
          unfold nextQ
          rw [if_neg (by simp [h2]), if_neg (by simp [h3])]
        refine XStop.ent (F' := ⟨fun w => (StpAt w h l ∧ hq1.By q.1 w ∧ AnAt w ka la) ∧ Ns w k0 p.qs.1 ∧ Ns w k1 p.qs.2, []⟩) (Ent.of_le ⟨by simp [Fx.and], fun w hw => ⟨⟨hw.1.1, hw.2.1, hw.2.2⟩, hw.1.2.2.1, hw.1.2.2.2⟩⟩) ?_
        rw [hnq] at hps
        have hm0 : p.qs.1.length ≤ 41 := by omega
        have hm1 : p.qs.2.length ≤ 41 := by omega
        have hj0 := hk0
        have hj1 := hk1
        generalize p.qs.1 = m0 at *
        generalize p.qs.2 = m1 at *
        generalize k0 = j0 at *
        generalize k1 = j1 at *
        obtain ⟨i0, hi0⟩ : ∃ i0 : Nat × List Int × List Int × Hd × Hd, i0 = (0, m0, m1, j0, j1) := ⟨_, rfl⟩
    all_goals
      have hlb : la.length ≤ 82 := by
        have := pops_len hps
        rw [← hla] at this
        simp only [List.length_map] at this
        omega
      refine XStop.loop tabOk (ι := Nat × List Int × List Int × Hd × Hd) ([11] ++ List.range' 77 48)
        (fun x => x.1 ≤ la.length ∧ pops (x.2.1, x.2.2.1) ((la.drop x.1).map (·.1.task)) = some q.1.qs ∧ x.2.1.length ≤ 41 ∧ x.2.2.1.length ≤ 41 ∧ x.2.2.2.1.Ok x.2.1.length ∧ x.2.2.2.2.Ok x.2.2.1.length)
        (fun x => [(11, .v (.int .i64 (x.1 : Int)))])
        (fun x => [hp.cells p, [x.2.2.2.1.v x.2.1.length, x.2.2.2.2.v x.2.2.1.length], l[i].1.cells l[i].2, hq1.cells q.1])
        (fun x => ⟨fun w => (StpAt w h l ∧ hq1.By q.1 w ∧ AnAt w ka la) ∧ Ns w x.2.2.2.1 x.2.1 ∧ Ns w x.2.2.2.2 x.2.2.1, []⟩)
        (fun x => la.length - x.1) i0 (by subst hi0; exact ⟨Nat.zero_le _, by rw [← hla] at hps; simpa [Function.comp_def] using hps, hm0, hm1, hj0, hj1⟩) ?_ (by subst hi0; first | rfl | (simp; exact ⟨rfl, rfl⟩)) (by subst hi0; exact Ent.refl _) fun x hx => ?_
      · subst hi0
        conv => whnf
        repeat (first | exact FLe.nil | refine FLe.any ?_ | refine FLe.cons ?_)
      clear hps hi0 hm0 hm1 hj0 hj1
      obtain ⟨k, m0, m1, j0, j1⟩ := x
      obtain ⟨hk, hps, hm0, hm1, hj0, hj1⟩ := hx
      dsimp only at hk hps hm0 hm1 hj0 hj1 ⊢
      conv => whnf
      refine XIf.split (fun hkl => ?_) (fun hkl => ?_)
      · conv => whnf
        have hkl' : k < la.length := by
          have : (k : Int) < la.length := by simpa [iLt_eq] using hkl
          omega
        have hdr : (la.drop k).map (·.1.task) = la[k].1.task :: (la.drop (k + 1)).map (·.1.task) := by
          rw [List.drop_eq_getElem_cons hkl', List.map_cons]
        rw [hdr] at hps
        have hak : (anCells la)[k * 3 + 0]? = some (.int .i64 la[k].1.task) := anCells_at la hkl' (by omega)
        refine XStop.draw tabOk mixed rfl rfl ?_
        conv => whnf
        repeat' (first
          | (refine And.intro ?_ ?_ <;> conv => whnf)
          | (refine XHeld.same rfl ?_; conv => whnf)
          | (refine XHeld.row rfl ?_; conv => whnf)
          | (refine XHeld.call rfl ?_; conv => whnf)
          | (refine XKeep.of ?_; conv => whnf)
          | (refine XSame.of ?_; conv => whnf)
          | ((fail_if_success (have := hc)); refine XIf.split (fun hc => ?_) (fun hc => ?_) <;> conv => whnf)
          | (refine XIf.split (fun hd0 => ?_) (fun hd0 => ?_) <;> conv => whnf)
          | (refine XRead.index tabOk (t := 55) rfl rfl rfl (by omega) (by simp [iGt_eq] at hc; omega) hj0.nil fun ad0 had0 => ?_; conv => whnf)
          | (refine XRead.index tabOk (t := 32) rfl rfl rfl (by omega) (by omega) hka.nil fun adk hadk => ?_; conv => whnf)
          | (refine XRead.loadF tabOk (t := 3) rfl rfl (ad := adk) (k := k * 3 + 0) (L := anCells la) (fun w hst => hadk ▸ hst.now.1.2.2.1) (fun hsp => Addr.add_add hsp _ _) hak ?_; conv => whnf)
          | (refine XRead.load tabOk (t := 3) rfl rfl (ad := ad0) (k := 0) (L := m0.map intV) (v := .int .i64 (m0[0]'(by simp [iGt_eq] at hc; omega))) (fun w hst => had0 ▸ hst.now.2.1) rfl (by simp [iGt_eq] at hc; simp [intV]) ?_; conv => whnf))
        · have hc' : 0 < m0.length := by simp [iGt_eq] at hc; omega
          have hh0 : m0.head? = some la[k].1.task := by
            rw [head_at hc']
            simpa [iEq_eq, hc] using hd0
          rw [pops_cons0 hh0] at hps
          have h1c := hj0.cap
          refine XVal.of_read (XRead.slice tabOk (t := 55) rfl rfl rfl (k1 := .i64) (k2 := .i64) (k3 := .i64) (lo := some 1) (hi := none) (mx := none) 1 m0.length j0.c rfl rfl rfl (by omega) (by omega) (Nat.le_refl _) (fun h => by cases h) ?_)
          conv => whnf
          refine ⟨(k + 1, m0.tail, m1, ⟨cutA j0.a 1 j0.c 1, j0.c - 1⟩, j1), ⟨⟨hkl', hps, by simp; omega, hm1, ⟨fun h => by have := hj0.nil (cutA_none h); omega, by simp; omega⟩, hj1⟩, by dsimp only; omega⟩, ?_, ?_, ?_⟩
          · conv => whnf
            refine ⟨?_, rfl⟩
            repeat (first | exact FLe.nil | refine FLe.any ?_ | refine FLe.cons ?_ | refine FLe.eq (by rw [wrap_i64 (by omega)]; rfl) ?_)
          · conv => whnf
            refine ⟨⟨rfl, rfl⟩, ⟨rfl, ?_⟩, ⟨rfl, rfl⟩, ⟨rfl, rfl⟩, trivial⟩
            simp
          · exact Ent.bare fun w hw => ⟨hw.1, Ns.tail hw.2.1 hj0, hw.2.2⟩
        all_goals
          have hn0 : m0.head? ≠ some la[k].1.task := by
            rcases Nat.eq_zero_or_pos m0.length with h0 | h0
            · exact head_none h0
            · rw [head_at h0]
              intro he
              have hc2 : iGt (m0.length : Int) 0 = true := by simp [iGt_eq]; omega
              first
                | (rw [hc2] at hc; exact Bool.noConfusion hc)
                | (simp [iEq_eq, hc2] at hd0
                   exact hd0 (by simpa using he))
          refine XStop.draw tabOk mixed rfl rfl ?_
          conv => whnf
          repeat' (first
            | (refine And.intro ?_ ?_ <;> conv => whnf)
            | (refine XHeld.same rfl ?_; conv => whnf)
            | (refine XHeld.row rfl ?_; conv => whnf)
            | (refine XHeld.call rfl ?_; conv => whnf)
            | (refine XKeep.of ?_; conv => whnf)
            | (refine XSame.of ?_; conv => whnf)
            | ((fail_if_success (have := hc1)); refine XIf.split (fun hc1 => ?_) (fun hc1 => ?_) <;> conv => whnf)
            | (refine XIf.split (fun hd1 => ?_) (fun hd1 => ?_) <;> conv => whnf)
            | (refine XRead.index tabOk (t := 55) rfl rfl rfl (by omega) (by simp [iGt_eq] at hc1; omega) hj1.nil fun ad1 had1 => ?_; conv => whnf)
            | (refine XRead.index tabOk (t := 32) rfl rfl rfl (by omega) (by omega) hka.nil fun adk hadk => ?_; conv => whnf)
            | (refine XRead.loadF tabOk (t := 3) rfl rfl (ad := adk) (k := k * 3 + 0) (L := anCells la) (fun w hst => hadk ▸ hst.now.1.2.2.1) (fun hsp => Addr.add_add hsp _ _) hak ?_; conv => whnf)
            | (refine XRead.load tabOk (t := 3) rfl rfl (ad := ad1) (k := 0) (L := m1.map intV) (v := .int .i64 (m1[0]'(by simp [iGt_eq] at hc1; omega))) (fun w hst => had1 ▸ hst.now.2.2) rfl (by simp [iGt_eq] at hc1; simp [intV]) ?_; conv => whnf))
          · have hc' : 0 < m1.length := by simp [iGt_eq] at hc1; omega
            have hh1 : m1.head? = some la[k].1.task := by
              rw [head_at hc']
              simpa [iEq_eq, hc1] using hd1
            rw [pops_cons1 hn0 hh1] at hps
            have h1c := hj1.cap
            refine XVal.of_read (XRead.slice tabOk (t := 55) rfl rfl rfl (k1 := .i64) (k2 := .i64) (k3 := .i64) (lo := some 1) (hi := none) (mx := none) 1 m1.length j1.c rfl rfl rfl (by omega) (by omega) (Nat.le_refl _) (fun h => by cases h) ?_)
            conv => whnf
            refine ⟨(k + 1, m0, m1.tail, j0, ⟨cutA j1.a 1 j1.c 1, j1.c - 1⟩), ⟨⟨hkl', hps, hm0, by simp; omega, hj0, ⟨fun h => by have := hj1.nil (cutA_none h); omega, by simp; omega⟩⟩, by dsimp only; omega⟩, ?_, ?_, ?_⟩
            · conv => whnf
              refine ⟨?_, rfl⟩
              repeat (first | exact FLe.nil | refine FLe.any ?_ | refine FLe.cons ?_ | refine FLe.eq (by rw [wrap_i64 (by omega)]; rfl) ?_)
            · conv => whnf
              refine ⟨⟨rfl, rfl⟩, ⟨rfl, ?_⟩, ⟨rfl, rfl⟩, ⟨rfl, rfl⟩, trivial⟩
              simp
            · exact Ent.bare fun w hw => ⟨hw.1, hw.2.1, Ns.tail hw.2.2 hj1⟩
          all_goals
            exfalso
            have hn1 : m1.head? ≠ some la[k].1.task := by
              rcases Nat.eq_zero_or_pos m1.length with h0 | h0
              · exact head_none h0
              · rw [head_at h0]
                intro he
                have hc2 : iGt (m1.length : Int) 0 = true := by simp [iGt_eq]; omega
                first
                  | (rw [hc2] at hc1; exact Bool.noConfusion hc1)
                  | (simp [iEq_eq, hc2] at hd1
                     exact hd1 (by simpa using he))
            rw [pops_none hn0 hn1] at hps
            cases hps
      · conv => whnf
        have hke : k = la.length := by
          have : ¬ (k : Int) < la.length := by simpa [iLt_eq] using hkl
          omega
        subst hke
        have hqs : (m0, m1) = q.1.qs := by simpa [pops] using hps
        have e0 : m0 = q.1.qs.1 := by rw [← hqs]
        have e1 : m1 = q.1.qs.2 := by rw [← hqs]
        subst e0 e1
        refine ⟨(i + 1, q.1, hq1, j0, j1), ⟨⟨hlt', hqv, by dsimp only; omega, hqo, hj0, hj1⟩, by dsimp only; omega⟩, ?_, ?_, ?_⟩
        · conv => whnf
          refine ⟨?_, rfl⟩
          repeat (first | exact FLe.nil | refine FLe.any ?_ | refine FLe.cons ?_ | refine FLe.eq (by rw [wrap_i64 (by omega)]; rfl) ?_)
        · conv => whnf
          exact ⟨⟨rfl, rfl⟩, ⟨rfl, rfl⟩, trivial⟩
        · exact Ent.bare fun w hw => ⟨hw.1.1, hw.1.2.1, hw.2.1, hw.2.2⟩
  · conv => whnf
    refine ⟨_, Ent.refl _, ?_⟩
    have h1 := rq_len p.wait
    have h2 : hp.l.length = p.wait.length := by rw [← hpo.l]; simp
    have h3 : p.qs.1.length = (rq p.wait false).length := rfl
    have h4 : p.qs.2.length = (rq p.wait true).length := rfl
    rw [wrap_i64 (by omega)]
    simp [iEq_eq]
    omega

end Go.Proofs.Ytpnnadojhacjiaa
