/- Names, part D: Split. -/
import Derived.Test.YtbfpgfopppfhoaaGreatDoorNaC
namespace Go.Proofs.YtbfpgfopppfhoaaGreatDoor
open Go Go.Sx
set_option maxRecDepth 100000
set_option maxHeartbeats 4000000
set_option linter.unusedVariables false
set_option linter.unusedSimpArgs false

theorem split_spec (s : List UInt8) (hs : s.length ≤ 1000) : PureSpec Tryz.prog 41 [strV s, strV [47]] (fun w => True) (RelS (splitOn s)) := by
  refine PureSpec.of_xc tabOk Tryz.func41 rfl (by decide) (n := Tryz.f41.ntmps - 2) rfl rfl fun w0 av => ?_
  conv => whnf
  refine XCall.pure (genSplit_spec s [47] (-1) hs rfl (by omega)) (fun w hw => trivial) (fun v D hv => ?_)
  obtain ⟨h, rfl, hh, rfl⟩ := hv
  conv => whnf
  exact ⟨_, Ent.of_le ⟨by simp [Fx.and], fun w hw => hw.2⟩, h, rfl, hh, rfl⟩

theorem bad_spec (s : List UInt8) (hs : s.length ≤ 1000000) : PureSpec Tryz.prog 43 [strV s] (fun w => True) (fun v F => v = .bool (!vname s)) := by
  refine PureSpec.of_xc tabOk Tryz.func43 rfl (by decide) (n := Tryz.f43.ntmps - 1) rfl rfl fun w0 av => ?_
  conv => whnf
  refine XCall.val (valid_spec s hs) (fun w hw => trivial) (fun v D hv => ?_)
  subst hv
  conv => whnf
  exact ⟨_, Ent.refl _, rfl⟩

theorem strAt_get {w : World} {h : Hd} {l : List (List UInt8)} (hl : StrAt w h l) : RowAt w h.a (l.map strV) := hl

theorem indexBad_spec (h : Hd) (l : List (List UInt8)) (hh : h.Ok l.length) (hl : l.length ≤ 1000000) (hx : ∀ s ∈ l, s.length ≤ 1000000) :
    PureSpec Tryz.prog 88 [h.v l.length, .func (.func 43) #[] #[]] (fun w => StrAt w h l) (fun v F => ∃ j : Int, v = .int .i64 j ∧ decide (j ≥ 0) = !l.all vname) := by
  refine PureSpec.of_xc tabOk Tryz.func88 rfl (by decide) (n := Tryz.f88.ntmps - 2) rfl rfl fun w0 av => ?_
  conv => whnf
  refine XStop.loop tabOk (ι := Nat) ([5] ++ List.range' 8 11) (fun x => x ≤ l.length ∧ (l.take x).all vname = true)
    (fun x => [(8, .v (.int .i64 (x : Int)))]) (fun _ => []) (fun _ => ⟨fun w => StrAt w h l, []⟩)
    (fun x => l.length - x) 0 ⟨Nat.zero_le _, rfl⟩ ?_ rfl (Ent.refl _) fun i hi => ?_
  · conv => whnf
    repeat (first | exact FLe.nil | refine FLe.any ?_ | refine FLe.cons ?_)
  obtain ⟨hi, hall⟩ := hi
  conv => whnf
  refine XIf.split (fun hlt => ?_) (fun hlt => ?_)
  · conv => whnf
    have hlt' : i < l.length := by
      have := hlt
      simp only [iLt_eq, decide_eq_true_eq] at this
      omega
    refine XVal.of_read (XRead.index tabOk (t := 23) rfl rfl rfl (by omega) (by omega) hh.nil fun ad had => ?_)
    conv => whnf
    refine XVal.of_read (XRead.load tabOk (t := 9) rfl rfl (ad := ad) (k := i) (L := l.map strV) (v := strV l[i]) (fun w hst => had ▸ hst.now) (by simp) (by simp [hlt']) ?_)
    conv => whnf
    refine XCall.val (bad_spec l[i] (hx _ (List.getElem_mem hlt'))) (fun w hw => trivial) (fun v D hv => ?_)
    generalize hvb : vname l[i] = vb at hv
    subst hv
    cases vb
    · conv => whnf
      refine ⟨_, Ent.refl _, _, rfl, ?_⟩
      have : l.all vname = false := by
        rw [List.all_eq_false]
        exact ⟨_, List.getElem_mem hlt', by rw [hvb]; simp⟩
      rw [this]
      simp
    · conv => whnf
      refine ⟨i + 1, ⟨⟨hlt', ?_⟩, by dsimp only; omega⟩, ?_, ?_, Ent.refl _⟩
      · rw [List.take_succ_eq_append_getElem hlt', List.all_append, hall]
        simp [hvb]
      · conv => whnf
        refine ⟨?_, rfl⟩
        repeat (first | exact FLe.nil | refine FLe.any ?_ | refine FLe.cons ?_ | refine FLe.eq (by rw [wrap_i64 (by omega)]; rfl) ?_)
      · conv => whnf
        exact trivial
  · conv => whnf
    have hie : i = l.length := by
      have := hlt
      simp only [iLt_eq, decide_eq_false_iff_not] at this
      omega
    subst hie
    rw [List.take_length] at hall
    exact ⟨_, Ent.refl _, _, rfl, by rw [hall]; rfl⟩

theorem containsBad_spec (h : Hd) (l : List (List UInt8)) (hh : h.Ok l.length) (hl : l.length ≤ 1000000) (hx : ∀ s ∈ l, s.length ≤ 1000000) :
    PureSpec Tryz.prog 42 [h.v l.length, .func (.func 43) #[] #[]] (fun w => StrAt w h l) (fun v F => v = .bool (!l.all vname)) := by
  refine PureSpec.of_xc tabOk Tryz.func42 rfl (by decide) (n := Tryz.f42.ntmps - 2) rfl rfl fun w0 av => ?_
  conv => whnf
  refine XCall.val (indexBad_spec h l hh hl hx) (fun w hw => hw) (fun v D hv => ?_)
  obtain ⟨j, rfl, hj⟩ := hv
  conv => whnf
  refine ⟨_, Ent.refl _, ?_⟩
  show Value.bool (iGe j 0) = _
  rw [← hj, iGe_eq]

/-- What Split returns. -/
def splitR (p : List UInt8) : List (List UInt8) × Int :=
  if pre p = true ∧ p.length ≤ 60 then (if p.drop 1 = [] then ([], 0) else if (splitOn (p.drop 1)).all vname = true then (splitOn (p.drop 1), 0) else ([], 15)) else ([], 15)

def RelP (q : List (List UInt8) × Int) (v : Value) (F : Fx) : Prop := ∃ h : Hd, v = .tuple #[h.v q.1.length, .int .i64 q.2] ∧ h.Ok q.1.length ∧ F = ⟨fun w => StrAt w h q.1, []⟩

theorem relP_nil {D : World → Prop} {q : List (List UInt8) × Int} {e : Int} (h : q = ([], e)) : ∃ F', Ent ⟨D, []⟩ F' ∧ RelP q (.tuple #[.slice none 0 0, .int .i64 e]) F' := by
  subst h
  exact ⟨⟨fun w => StrAt w Hd.nil [], []⟩, Ent.imp fun w _ => RowAt.nilA, Hd.nil, rfl, Hd.nil_ok, rfl⟩

theorem splitOn_small : ∀ (r : List UInt8), ∀ s ∈ splitOn r, s.length ≤ r.length
  | [], s, h => by simp [splitOn] at h; subst h; simp
  | c :: r, s, h => by
    have ih := splitOn_small r
    unfold splitOn at h
    split at h
    · rcases List.mem_cons.1 h with e | h
      · subst e; simp
      · have := ih s h
        simp
        omega
    · split at h
      · rename_i x xs hx
        rcases List.mem_cons.1 h with e | h
        · subst e
          have := ih x (by rw [hx]; exact List.mem_cons_self ..)
          simp
          omega
        · have := ih s (by rw [hx]; exact List.mem_cons_of_mem _ h)
          simp
          omega
      · rcases List.mem_cons.1 h with e | h
        · subst e; simp
        · cases h

theorem dirsSplit_spec (p : List UInt8) (hp : p.length ≤ 200) : PureSpec Tryz.prog 13 [strV p] (fun w => True) (RelP (splitR p)) := by
  refine PureSpec.of_xc tabOk Tryz.func13 rfl (by decide) (n := Tryz.f13.ntmps - 1) rfl rfl fun w0 av => ?_
  conv => whnf
  refine XCall.val (cutPrefix_spec p (by omega)) (fun w hw => trivial) (fun v D hv => ?_)
  unfold cutV at hv
  generalize hpre : pre p = b at hv
  subst hv
  conv => whnf
  cases b
  · conv => whnf
    repeat' (first
      | (refine XSame.of ?_; conv => whnf))
    refine relP_nil ?_
    unfold splitR
    rw [if_neg (by rw [hpre]; simp)]
  · conv => whnf
    repeat' (first
      | (refine XSame.of ?_; conv => whnf))
    refine XIf.split (fun hlt => ?_) (fun hlt => ?_)
    · conv => whnf
      refine relP_nil ?_
      unfold splitR
      rw [if_neg]
      rintro ⟨-, h2⟩
      have := hlt
      have hsz : (ByteArray.mk ⟨p⟩).size = p.length := rfl
      simp [iGt_eq, hsz] at this
      omega
    · conv => whnf
      have hle : p.length ≤ 60 := by
        have := hlt
        have hsz : (ByteArray.mk ⟨p⟩).size = p.length := rfl
        simp [iGt_eq, hsz] at this
        omega
      have hR : splitR p = (if p.drop 1 = [] then ([], 0) else if (splitOn (p.drop 1)).all vname = true then (splitOn (p.drop 1), 0) else ([], 15)) := by
        unfold splitR
        rw [if_pos ⟨hpre, hle⟩]
      refine XVal.of_read (XRead.strEq (l := p.drop 1) (m := []) ?_)
      conv => whnf
      refine XIf.split (fun h0 => ?_) (fun h0 => ?_)
      · conv => whnf
        refine relP_nil ?_
        rw [hR, if_pos (by simpa using h0)]
      · conv => whnf
        have h0' : p.drop 1 ≠ [] := by simpa using h0
        have hdl : (p.drop 1).length ≤ 200 := by simp; omega
        refine XCall.pure (split_spec (p.drop 1) (by omega)) (fun w hw => trivial) (fun v D hv => ?_)
        obtain ⟨h, rfl, hh, rfl⟩ := hv
        conv => whnf
        have hbig : (splitOn (p.drop 1)).length ≤ 1000000 := by
          rw [splitOn_len]
          have : (p.drop 1).count 47 ≤ (p.drop 1).length := List.count_le_length
          omega
        refine XCall.val (containsBad_spec h (splitOn (p.drop 1)) hh hbig (fun s hs => by have := splitOn_small _ s hs; omega)) (fun w hw => hw.2) (fun v D hv => ?_)
        generalize hall : (splitOn (p.drop 1)).all vname = b at hv
        subst hv
        cases b
        · conv => whnf
          refine relP_nil ?_
          rw [hR, if_neg h0', if_neg (by rw [hall]; simp)]
        · conv => whnf
          refine ⟨⟨fun w => StrAt w h (splitOn (p.drop 1)), []⟩, Ent.of_le ⟨by simp [Fx.and], fun w hw => hw.2⟩, h, ?_, ?_, ?_⟩
          · rw [hR, if_neg h0', if_pos hall]
          · rw [hR, if_neg h0', if_pos hall]
            exact hh
          · rw [hR, if_neg h0', if_pos hall]

end Go.Proofs.YtbfpgfopppfhoaaGreatDoor
