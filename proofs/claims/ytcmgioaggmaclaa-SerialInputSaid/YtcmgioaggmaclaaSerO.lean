/- Serial, part O: the reference's Tick. -/
import Derived.Test.YtcmgioaggmaclaaSerN
namespace Go.Proofs.Ytcmgioaggmaclaa
open Go Go.Sx
set_option maxRecDepth 100000
set_option maxHeartbeats 2000000
set_option linter.unusedVariables false
set_option linter.unusedSimpArgs false

def S.rtick (s : S) : S × List Ans × List UInt8 :=
  if !s.rvalid 0 0 then (.zero, [], [])
  else
    let a := s.arrive
    let b := a.1.tickOut
    let c := b.1.tickIn
    (c.1, b.2 ++ c.2, a.2)

def RelRT (r : S × List Ans × List UInt8) (v : Value) (F : Fx) : Prop :=
  ∃ (h : SH) (ka : Hd) (l : List (Ans × Hd)) (k : Hd), v = .tuple #[.agg ⟨r.1.rcells 0 0 h⟩, ka.v r.2.1.length, k.v r.2.2.length] ∧ h.Ok r.1 ∧ ka.Ok r.2.1.length ∧ l.map (·.1) = r.2.1 ∧ AnsOk l ∧ k.Ok r.2.2.length ∧
    F = ⟨fun w => h.By r.1 w ∧ AnsAt w ka l ∧ By w k r.2.2, []⟩

theorem S.rvalid_va {s : S} {lo li : Int} (h : s.rvalid lo li = true) : s.Va := by
  simp [S.rvalid, iLe_eq, iGe_eq, iLt_eq] at h
  obtain ⟨⟨⟨⟨⟨⟨⟨⟨h1, h2⟩, h3⟩, h4⟩, h5⟩, h6⟩, h7⟩, h8⟩, h9⟩ := h
  exact ⟨by omega, h2, h3, h4, h5, h6, by omega⟩

theorem S.tickOut_rest (s : S) : s.tickOut.1.got = s.got ∧ s.tickOut.1.i = s.i := by
  unfold S.tickOut S.write
  repeat' split
  all_goals exact ⟨rfl, rfl⟩

theorem ansCells_len (l : List (Ans × Hd)) : (ansCells l).length = l.length * 3 := by
  induction l with
  | nil => rfl
  | cons p l ih =>
    have e : ansCells (p :: l) = p.1.cells p.2 ++ ansCells l := rfl
    rw [e, List.length_append, ih, List.length_cons]
    simp [Ans.cells]
    omega

theorem ansCells_one (l : List (Ans × Hd)) : ∀ v ∈ ansCells l, oneCell v = true := by
  intro v hv
  obtain ⟨p, _, hp⟩ := List.mem_flatMap.1 hv
  exact ans_one p.1 p.2 v hp

theorem ansCells_append (l m : List (Ans × Hd)) : ansCells (l ++ m) = ansCells l ++ ansCells m := by simp [ansCells]

theorem S.tickOut_few (s : S) : s.tickOut.2.length ≤ 1 := by
  unfold S.tickOut
  split
  · simp
  · simp

theorem S.tickIn_few (s : S) : s.tickIn.2.length ≤ 1 := by
  unfold S.tickIn
  split
  · dsimp only
    split
    · split <;> simp
    · split <;> simp
  · simp

theorem rtick_spec (s : S) (h : SH) (hh : h.Ok s) (hf : s.Few) : PureSpec Try.prog 15 [.agg ⟨s.rcells 0 0 h⟩] (h.By s) (RelRT s.rtick) := by
  refine PureSpec.of_xc tabOk Try.func15 rfl (by decide) (n := Try.f15.ntmps - 1) rfl rfl fun w0 av => ?_
  conv => whnf
  intro b1
  conv => whnf
  intro b2
  conv => whnf
  refine XCall.val (rvalid_spec s 0 0 h hh hf) (fun _ h => h) (fun v D hv => ?_)
  subst hv
  conv => whnf
  refine XIf.split (fun h1 => ?_) (fun h1 => ?_)
  · conv => whnf
    have e : s.rtick = (.zero, [], []) := by simp [S.rtick]; intro h; simp [h] at h1
    rw [e]
    exact ⟨⟨fun w => SH.nil.By S.zero w ∧ AnsAt w Hd.nil [] ∧ By w Hd.nil [], []⟩, Ent.imp fun w h => ⟨SH.nil_by w, ⟨rfl, by simp⟩, By.nil w⟩, SH.nil, Hd.nil, [], Hd.nil, rfl, SH.nil_ok, Hd.nil_ok, rfl, by simp [AnsOk], Hd.nil_ok, rfl⟩
  · have hv : s.rvalid 0 0 = true := by simpa using h1
    have hva := S.rvalid_va hv
    obtain ⟨a1, a2, a3, a4, a5⟩ := s.arrive_rest
    have a6 := S.arrive_got hva
    have e : s.rtick = ((s.arrive.1.tickOut.1.tickIn).1, s.arrive.1.tickOut.2 ++ (s.arrive.1.tickOut.1.tickIn).2, s.arrive.2) := by simp only [S.rtick, hv]; rfl
    rw [e]
    have f1 : s.arrive.1.o.Few ∧ s.arrive.1.i.Few := by rw [a2, a3]; exact ⟨hf.o, hf.i⟩
    have f2 : s.arrive.1.output.length ≤ 100000 := by rw [a1]; exact hva.out
    have t1 := s.arrive.1.tickOut_rest
    conv => whnf
    refine XCall.pure (rarrive_spec s 0 0 h hh hva) (fun w h => h) ?_
    rintro v F ⟨g, k, rfl, hg, hk, rfl⟩
    conv => whnf
    refine XCall.pure (rwrite_spec s.arrive.1 g hg f2 f1.1) (fun w h => h.2.1) ?_
    rintro v F ⟨g2, ka, la, rfl, hg2, hka, hla, hlo, rfl⟩
    conv => whnf
    refine XCall.pure (rread_spec s.arrive.1.tickOut.1 g2 hg2 (by rw [t1.1]; exact a6) (by rw [t1.2]; exact f1.2)) (fun w h => h.2.1) ?_
    rintro v F ⟨g3, kb, lb, rfl, hg3, hkb, hlb, hlbo, rfl⟩
    conv => whnf
    try (refine XStop.draw tabOk mixed rfl rfl ?_; conv => whnf)
    have n1 := s.arrive.1.tickOut_few
    have n2 := s.arrive.1.tickOut.1.tickIn_few
    have m1 : la.length = s.arrive.1.tickOut.2.length := by rw [← hla]; simp
    have m2 : lb.length = s.arrive.1.tickOut.1.tickIn.2.length := by rw [← hlb]; simp
    refine XVal.build tabOk (t := 48) (n := 0) rfl rfl rfl [] rfl rfl (by simp) (by decide) fun b3 => ?_
    conv => whnf
    repeat' (first
      | (refine XKeep.of ?_; conv => whnf)
      | (refine And.intro ?_ ?_ <;> conv => whnf))
    refine XVal.append tabOk (t := 48) (xt := 48) rfl rfl rfl rfl rfl rfl (r1 := []) (r2 := []) (C := []) (L := []) (M := ansCells la) (Own.full (by simp)) (Sees.fact fun w h => h.1.2.2.1) (by rw [ansCells_len, m1]) (ansCells_one la) (by omega) (by simp; omega) fun a' cap' C' hO => ?_
    simp only [List.nil_append, Nat.zero_add] at hO ⊢
    conv => whnf
    repeat' (first
      | (refine XKeep.of ?_; conv => whnf)
      | (refine And.intro ?_ ?_ <;> conv => whnf))
    refine XVal.append tabOk (t := 48) (xt := 48) rfl rfl rfl rfl rfl rfl (r1 := []) (r2 := []) (M := ansCells lb) hO (Sees.fact fun w h => h.2.2.1) (by rw [ansCells_len, m2]) (ansCells_one lb) (by omega) (by simp; omega) fun a2 cap2 C2 hO2 => ?_
    simp only [List.nil_append, List.append_nil, Nat.zero_add] at hO2 ⊢
    conv => whnf
    repeat' (first
      | (refine XKeep.of ?_; conv => whnf)
      | (refine And.intro ?_ ?_ <;> conv => whnf))
    have hN : s.arrive.1.tickOut.2.length + s.arrive.1.tickOut.1.tickIn.2.length = (s.arrive.1.tickOut.2 ++ s.arrive.1.tickOut.1.tickIn.2).length := by simp
    rw [hN] at hO2 ⊢
    refine ⟨⟨fun w => g3.By s.arrive.1.tickOut.1.tickIn.1 w ∧ AnsAt w ⟨a2, cap2⟩ (la ++ lb) ∧ By w k s.arrive.2, []⟩, ?_, g3, ⟨a2, cap2⟩, la ++ lb, k, rfl, hg3, ⟨hO2.none_nil, hO2.fit⟩, by rw [List.map_append, hla, hlb], ?_, hk, rfl⟩
    · have := (Own.share (r1 := []) (r2 := []) hO2 (D := fun w => ((h.By s w ∧ (g.By s.arrive.1 w ∧ By w k s.arrive.2)) ∧ (g2.By s.arrive.1.tickOut.1 w ∧ AnsAt w ka la)) ∧ (g3.By s.arrive.1.tickOut.1.tickIn.1 w ∧ AnsAt w kb lb)))
      simp only [List.nil_append, List.append_nil] at this
      refine this.trans (Ent.imp fun w hw => ⟨hw.1.2.1, ⟨by rw [ansCells_append]; exact hw.2, fun p hp => ?_⟩, hw.1.1.1.2.2⟩)
      rcases List.mem_append.1 hp with hp | hp
      · exact hw.1.1.2.2.2 p hp
      · exact hw.1.2.2.2 p hp
    · intro p hp
      rcases List.mem_append.1 hp with hp | hp
      · exact hlo p hp
      · exact hlbo p hp

end Go.Proofs.Ytcmgioaggmaclaa
