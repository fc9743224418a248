/- Serial, part H: Tick. -/
import Derived.Test.YtcmgioaggmaclaaSerG
namespace Go.Proofs.Ytcmgioaggmaclaa
open Go Go.Sx
set_option maxRecDepth 100000
set_option maxHeartbeats 2000000
set_option linter.unusedVariables false
set_option linter.unusedSimpArgs false

/-- Answers in a row, each with its handle. -/
def ansCells (l : List (Ans × Hd)) : List Value := l.flatMap fun p => p.1.cells p.2

def AnsAt (w : World) (h : Hd) (l : List (Ans × Hd)) : Prop := RowAt w h.a (ansCells l) ∧ ∀ p ∈ l, By w p.2 p.1.data

def AnsOk (l : List (Ans × Hd)) : Prop := ∀ p ∈ l, p.2.Ok p.1.data.length

def S.tickOut (s : S) : S × List Ans :=
  if s.o.isOpen then
    let r : S × Int := if iNe s.o.cmd.tag s.o.last.tag then s.write s.o.cmd else (s, 0)
    ({ r.1 with o := (r.1.o.finish r.2 []).1 }, [(r.1.o.finish r.2 []).2])
  else (s, [])

def S.tickIn (s : S) : S × List Ans :=
  if s.i.isOpen then
    let r : Int × List UInt8 × Bool := if iNe s.i.cmd.tag s.i.last.tag then s.rd s.i.cmd else (0, [], true)
    if r.2.2 then ({ s with i := (s.i.finish r.1 r.2.1).1 }, [(s.i.finish r.1 r.2.1).2]) else (s, [])
  else (s, [])

def S.tick (s : S) : S × List Ans × List UInt8 :=
  if !s.valid then (.zero, [], [])
  else
    let a := s.arrive
    let b := a.1.tickOut
    let c := b.1.tickIn
    (c.1, b.2 ++ c.2, a.2)

def RelT (r : S × List Ans × List UInt8) (v : Value) (F : Fx) : Prop :=
  ∃ (h : SH) (ka : Hd) (l : List (Ans × Hd)) (k : Hd), v = .tuple #[.agg ⟨r.1.cells h⟩, ka.v r.2.1.length, k.v r.2.2.length] ∧ h.Ok r.1 ∧ ka.Ok r.2.1.length ∧ l.map (·.1) = r.2.1 ∧ AnsOk l ∧ k.Ok r.2.2.length ∧
    F = ⟨fun w => h.By r.1 w ∧ AnsAt w ka l ∧ By w k r.2.2, []⟩

theorem S.valid_va {s : S} (h : s.valid = true) : s.Va := by
  simp [S.valid, iLe_eq, iGe_eq, iLt_eq] at h
  obtain ⟨⟨⟨⟨⟨⟨⟨⟨h1, h2⟩, h3⟩, h4⟩, h5⟩, h6⟩, h7⟩, h8⟩, h9⟩ := h
  exact ⟨by omega, h2, h3, h4, h5, h6, by omega⟩

theorem S.arrive_rest (s : S) : s.arrive.1.output = s.output ∧ s.arrive.1.o = s.o ∧ s.arrive.1.i = s.i ∧ s.arrive.1.got.length ≤ s.got.length + 1 ∧ s.arrive.2.length ≤ 1 := by
  unfold S.arrive
  split
  · exact ⟨rfl, rfl, rfl, by simp, by simp⟩
  · split
    · exact ⟨rfl, rfl, rfl, by simp, by simp⟩
    · dsimp only
      split
      · exact ⟨rfl, rfl, rfl, by simp, by simp⟩
      · exact ⟨rfl, rfl, rfl, by simp, by simp⟩

theorem S.arrive_got {s : S} (h : s.Va) : s.arrive.1.got.length ≤ 4000 := by
  have h1 := h.inp
  have h2 := h.le
  have h3 := h.got
  unfold S.arrive
  split
  · show s.got.length ≤ 4000
    omega
  · rename_i hn
    split
    · show s.got.length ≤ 4000
      omega
    · rename_i hp
      simp [iEq_eq] at hp
      dsimp only
      split
      · show s.got.length ≤ 4000
        omega
      · simp
        omega

theorem ans_one (a : Ans) (k : Hd) : ∀ v ∈ a.cells k, oneCell v = true := by
  simp [Ans.cells, oneCell]

theorem ans_sz (a : Ans) (k : Hd) : ∀ v ∈ [Value.agg ⟨a.cells k⟩], v.cells.toList.length = 3 := by
  simp [Ans.cells, Value.cells]

theorem own_some {sz n : Nat} {a : Option Addr} {cap : Nat} {C L : List Value} (h : Own sz n a cap C L) (hn : 0 < n) : ∃ b, a = Option.some ⟨b, 0, none⟩ := by
  rcases h.alt with ⟨h1, h2, h3⟩ | ⟨b, h1, _⟩
  · have := h.fit
    omega
  · exact ⟨b, h1⟩

theorem rd_len (s : S) (c : Cmd) : (s.rd c).2.1.length ≤ 1000000 := by
  unfold S.rd
  split
  · simp
  · split
    · simp
    · split
      · simp
      · simp
        omega

theorem write_got (s : S) (c : Cmd) : (s.write c).1.got = s.got := by
  unfold S.write
  repeat' split
  all_goals rfl

theorem write_few' {s : S} (h : s.o.Few ∧ s.i.Few) (c : Cmd) : (s.write c).1.o.Few ∧ (s.write c).1.i.Few := by
  unfold S.write
  repeat' split
  all_goals exact h

theorem tick_spec (s : S) (h : SH) (hh : h.Ok s) (hf : s.Few) : PureSpec Try.prog 13 [.agg ⟨s.cells h⟩] (h.By s) (RelT s.tick) := by
  refine PureSpec.of_xc tabOk Try.func13 rfl (by decide) (n := Try.f13.ntmps - 1) rfl rfl fun w0 av => ?_
  conv => whnf
  intro b1
  conv => whnf
  intro b2
  conv => whnf
  refine XCall.val (valid_spec s h) (fun _ _ => trivial) (fun v D hv => ?_)
  subst hv
  conv => whnf
  refine XIf.split (fun h1 => ?_) (fun h1 => ?_)
  · conv => whnf
    have e : s.tick = (.zero, [], []) := by simp [S.tick]; intro h; simp [h] at h1
    rw [e]
    exact ⟨⟨fun w => SH.nil.By S.zero w ∧ AnsAt w Hd.nil [] ∧ By w Hd.nil [], []⟩, Ent.imp fun w h => ⟨SH.nil_by w, ⟨rfl, by simp⟩, By.nil w⟩, SH.nil, Hd.nil, [], Hd.nil, rfl, SH.nil_ok, Hd.nil_ok, rfl, by simp [AnsOk], Hd.nil_ok, rfl⟩
  · have hv : s.valid = true := by simpa using h1
    have hva := S.valid_va hv
    obtain ⟨a1, a2, a3, a4, a5⟩ := s.arrive_rest
    have a6 := S.arrive_got hva
    conv => whnf
    refine XCall.pure (copied_spec s h hh hf) (fun w h => h) ?_
    rintro v F ⟨g0, rfl, hg0, hg1, hg2, rfl⟩
    conv => whnf
    refine XCall.ptr (arrive_spec s g0 hg0 hva hg1 hg2) 0 0 rfl rfl (fun w h => h.2) ?_
    rintro v cs' F hlen ⟨g, k, rfl, rfl, hg, hk, hgo, rfl⟩
    conv => whnf
    intro b3
    conv => whnf
    have e : s.tick = ((s.arrive.1.tickOut.1.tickIn).1, s.arrive.1.tickOut.2 ++ (s.arrive.1.tickOut.1.tickIn).2, s.arrive.2) := by simp only [S.tick, hv]; rfl
    rw [e]
    have f1 : s.arrive.1.o.Few ∧ s.arrive.1.i.Few := by rw [a2, a3]; exact ⟨hf.o, hf.i⟩
    have f2 : s.arrive.1.output.length ≤ 100000 := by rw [a1]; exact hva.out
    clear e a1 a2 a3 a4 hlen
    generalize s.arrive.1 = t at *
    generalize s.arrive.2 = sent at *
    -- paths begin
    refine XIf.split (fun h2 => ?_) (fun h2 => ?_)
    · conv => whnf
      refine XIf.split (fun h3 => ?_) (fun h3 => ?_)
      · conv => whnf
        refine XCall.ptr (write_spec t g hg f2 hgo t.o.cmd g.o.d hg.o.d f1.1.d) 0 0 rfl rfl (fun w h => ⟨h.2.1, h.2.1.o.d⟩) ?_
        rintro v cs' F hlenw ⟨gw, rfl, rfl, hgw, rfl⟩
        conv => whnf
        have fw := write_few' f1 t.o.cmd
        have gotw : (t.write t.o.cmd).1.got.length ≤ 4000 := by rw [write_got]; exact a6
        refine XCall.ptr (finish_spec (t.write t.o.cmd).1.o gw.o hgw.o fw.1 (t.write t.o.cmd).2 [] Hd.nil Hd.nil_ok (by simp)) 0 5 rfl rfl (fun w h => ⟨h.2.o, By.nil w⟩) ?_
        rintro v cs' F hleno ⟨eo, ko, rfl, rfl, heo, hko, rfl⟩
        conv => whnf
        refine XVal.build tabOk (t := 44) rfl rfl rfl [.agg ⟨((t.write t.o.cmd).1.o.finish (t.write t.o.cmd).2 []).2.cells ko⟩] rfl rfl (ans_sz _ _) (by decide) fun xo => ?_
        conv => whnf
        refine XVal.append tabOk (t := 44) (xt := 44) rfl rfl rfl rfl rfl rfl (r1 := []) (r2 := [(xo, ((t.write t.o.cmd).1.o.finish (t.write t.o.cmd).2 []).2.cells ko)]) (Own.nil _) (M := ((t.write t.o.cmd).1.o.finish (t.write t.o.cmd).2 []).2.cells ko) (Sees.row (by simp [orow])) rfl (ans_one _ _) (by omega) (by decide) fun a capo Co hOo => ?_
        obtain ⟨yo, rfl⟩ := own_some hOo (by omega)
        conv => whnf
        have e1 : t.tickOut = ((S.mk (t.write t.o.cmd).1.input (t.write t.o.cmd).1.pos (t.write t.o.cmd).1.pause (t.write t.o.cmd).1.got (t.write t.o.cmd).1.output ((t.write t.o.cmd).1.o.finish (t.write t.o.cmd).2 []).1 (t.write t.o.cmd).1.i), [((t.write t.o.cmd).1.o.finish (t.write t.o.cmd).2 []).2]) := by simp only [S.tickOut, h2, h3, if_true]
        have hG : SH.Ok (SH.mk gw.inp gw.got gw.out eo gw.i) (S.mk (t.write t.o.cmd).1.input (t.write t.o.cmd).1.pos (t.write t.o.cmd).1.pause (t.write t.o.cmd).1.got (t.write t.o.cmd).1.output ((t.write t.o.cmd).1.o.finish (t.write t.o.cmd).2 []).1 (t.write t.o.cmd).1.i) := ⟨hgw.inp, hgw.got, hgw.out, heo, hgw.i⟩
        intro b7
        conv => whnf
        refine XIf.split (fun h4 => ?_) (fun h4 => ?_)
        · conv => whnf
          refine XIf.split (fun h5 => ?_) (fun h5 => ?_)
          · conv => whnf
            refine XCall.ptr (read_spec (S.mk (t.write t.o.cmd).1.input (t.write t.o.cmd).1.pos (t.write t.o.cmd).1.pause (t.write t.o.cmd).1.got (t.write t.o.cmd).1.output ((t.write t.o.cmd).1.o.finish (t.write t.o.cmd).2 []).1 (t.write t.o.cmd).1.i) (SH.mk gw.inp gw.got gw.out eo gw.i) hG gotw (S.mk (t.write t.o.cmd).1.input (t.write t.o.cmd).1.pos (t.write t.o.cmd).1.pause (t.write t.o.cmd).1.got (t.write t.o.cmd).1.output ((t.write t.o.cmd).1.o.finish (t.write t.o.cmd).2 []).1 (t.write t.o.cmd).1.i).i.cmd (SH.mk gw.inp gw.got gw.out eo gw.i).i.d) 0 0 rfl rfl (fun w h => ⟨h.1.2.inp, h.1.2.got, h.1.2.out, h.2.1, h.1.2.i⟩) ?_
            rintro v cs' F hlenr ⟨kr, rfl, rfl, hkr, rfl⟩
            conv => whnf
            refine XIf.split (fun h6 => ?_) (fun h6 => ?_)
            · conv => whnf
              refine XCall.ptr (finish_spec (S.mk (t.write t.o.cmd).1.input (t.write t.o.cmd).1.pos (t.write t.o.cmd).1.pause (t.write t.o.cmd).1.got (t.write t.o.cmd).1.output ((t.write t.o.cmd).1.o.finish (t.write t.o.cmd).2 []).1 (t.write t.o.cmd).1.i).i (SH.mk gw.inp gw.got gw.out eo gw.i).i hG.i fw.2 ((S.mk (t.write t.o.cmd).1.input (t.write t.o.cmd).1.pos (t.write t.o.cmd).1.pause (t.write t.o.cmd).1.got (t.write t.o.cmd).1.output ((t.write t.o.cmd).1.o.finish (t.write t.o.cmd).2 []).1 (t.write t.o.cmd).1.i).rd (S.mk (t.write t.o.cmd).1.input (t.write t.o.cmd).1.pos (t.write t.o.cmd).1.pause (t.write t.o.cmd).1.got (t.write t.o.cmd).1.output ((t.write t.o.cmd).1.o.finish (t.write t.o.cmd).2 []).1 (t.write t.o.cmd).1.i).i.cmd).1 ((S.mk (t.write t.o.cmd).1.input (t.write t.o.cmd).1.pos (t.write t.o.cmd).1.pause (t.write t.o.cmd).1.got (t.write t.o.cmd).1.output ((t.write t.o.cmd).1.o.finish (t.write t.o.cmd).2 []).1 (t.write t.o.cmd).1.i).rd (S.mk (t.write t.o.cmd).1.input (t.write t.o.cmd).1.pos (t.write t.o.cmd).1.pause (t.write t.o.cmd).1.got (t.write t.o.cmd).1.output ((t.write t.o.cmd).1.o.finish (t.write t.o.cmd).2 []).1 (t.write t.o.cmd).1.i).i.cmd).2.1 kr hkr (rd_len _ _)) 0 13 rfl rfl (fun w h => ⟨(⟨h.1.1.2.inp, h.1.1.2.got, h.1.1.2.out, h.1.2.1, h.1.1.2.i⟩ : SH.By (SH.mk gw.inp gw.got gw.out eo gw.i) (S.mk (t.write t.o.cmd).1.input (t.write t.o.cmd).1.pos (t.write t.o.cmd).1.pause (t.write t.o.cmd).1.got (t.write t.o.cmd).1.output ((t.write t.o.cmd).1.o.finish (t.write t.o.cmd).2 []).1 (t.write t.o.cmd).1.i) w).i, h.2⟩) ?_
              rintro v cs' F hleni ⟨ei, ki, rfl, rfl, hei, hki, rfl⟩
              conv => whnf
              refine XVal.build tabOk (t := 44) rfl rfl rfl [.agg ⟨((S.mk (t.write t.o.cmd).1.input (t.write t.o.cmd).1.pos (t.write t.o.cmd).1.pause (t.write t.o.cmd).1.got (t.write t.o.cmd).1.output ((t.write t.o.cmd).1.o.finish (t.write t.o.cmd).2 []).1 (t.write t.o.cmd).1.i).i.finish ((S.mk (t.write t.o.cmd).1.input (t.write t.o.cmd).1.pos (t.write t.o.cmd).1.pause (t.write t.o.cmd).1.got (t.write t.o.cmd).1.output ((t.write t.o.cmd).1.o.finish (t.write t.o.cmd).2 []).1 (t.write t.o.cmd).1.i).rd (S.mk (t.write t.o.cmd).1.input (t.write t.o.cmd).1.pos (t.write t.o.cmd).1.pause (t.write t.o.cmd).1.got (t.write t.o.cmd).1.output ((t.write t.o.cmd).1.o.finish (t.write t.o.cmd).2 []).1 (t.write t.o.cmd).1.i).i.cmd).1 ((S.mk (t.write t.o.cmd).1.input (t.write t.o.cmd).1.pos (t.write t.o.cmd).1.pause (t.write t.o.cmd).1.got (t.write t.o.cmd).1.output ((t.write t.o.cmd).1.o.finish (t.write t.o.cmd).2 []).1 (t.write t.o.cmd).1.i).rd (S.mk (t.write t.o.cmd).1.input (t.write t.o.cmd).1.pos (t.write t.o.cmd).1.pause (t.write t.o.cmd).1.got (t.write t.o.cmd).1.output ((t.write t.o.cmd).1.o.finish (t.write t.o.cmd).2 []).1 (t.write t.o.cmd).1.i).i.cmd).2.1).2.cells ki⟩] rfl rfl (ans_sz _ _) (by decide) fun xi => ?_
              conv => whnf
              refine XVal.append tabOk (t := 44) (xt := 44) rfl rfl rfl rfl rfl rfl (r1 := []) (r2 := [(xo, ((t.write t.o.cmd).1.o.finish (t.write t.o.cmd).2 []).2.cells ko), (xi, ((S.mk (t.write t.o.cmd).1.input (t.write t.o.cmd).1.pos (t.write t.o.cmd).1.pause (t.write t.o.cmd).1.got (t.write t.o.cmd).1.output ((t.write t.o.cmd).1.o.finish (t.write t.o.cmd).2 []).1 (t.write t.o.cmd).1.i).i.finish ((S.mk (t.write t.o.cmd).1.input (t.write t.o.cmd).1.pos (t.write t.o.cmd).1.pause (t.write t.o.cmd).1.got (t.write t.o.cmd).1.output ((t.write t.o.cmd).1.o.finish (t.write t.o.cmd).2 []).1 (t.write t.o.cmd).1.i).rd (S.mk (t.write t.o.cmd).1.input (t.write t.o.cmd).1.pos (t.write t.o.cmd).1.pause (t.write t.o.cmd).1.got (t.write t.o.cmd).1.output ((t.write t.o.cmd).1.o.finish (t.write t.o.cmd).2 []).1 (t.write t.o.cmd).1.i).i.cmd).1 ((S.mk (t.write t.o.cmd).1.input (t.write t.o.cmd).1.pos (t.write t.o.cmd).1.pause (t.write t.o.cmd).1.got (t.write t.o.cmd).1.output ((t.write t.o.cmd).1.o.finish (t.write t.o.cmd).2 []).1 (t.write t.o.cmd).1.i).rd (S.mk (t.write t.o.cmd).1.input (t.write t.o.cmd).1.pos (t.write t.o.cmd).1.pause (t.write t.o.cmd).1.got (t.write t.o.cmd).1.output ((t.write t.o.cmd).1.o.finish (t.write t.o.cmd).2 []).1 (t.write t.o.cmd).1.i).i.cmd).2.1).2.cells ki)]) hOo (M := ((S.mk (t.write t.o.cmd).1.input (t.write t.o.cmd).1.pos (t.write t.o.cmd).1.pause (t.write t.o.cmd).1.got (t.write t.o.cmd).1.output ((t.write t.o.cmd).1.o.finish (t.write t.o.cmd).2 []).1 (t.write t.o.cmd).1.i).i.finish ((S.mk (t.write t.o.cmd).1.input (t.write t.o.cmd).1.pos (t.write t.o.cmd).1.pause (t.write t.o.cmd).1.got (t.write t.o.cmd).1.output ((t.write t.o.cmd).1.o.finish (t.write t.o.cmd).2 []).1 (t.write t.o.cmd).1.i).rd (S.mk (t.write t.o.cmd).1.input (t.write t.o.cmd).1.pos (t.write t.o.cmd).1.pause (t.write t.o.cmd).1.got (t.write t.o.cmd).1.output ((t.write t.o.cmd).1.o.finish (t.write t.o.cmd).2 []).1 (t.write t.o.cmd).1.i).i.cmd).1 ((S.mk (t.write t.o.cmd).1.input (t.write t.o.cmd).1.pos (t.write t.o.cmd).1.pause (t.write t.o.cmd).1.got (t.write t.o.cmd).1.output ((t.write t.o.cmd).1.o.finish (t.write t.o.cmd).2 []).1 (t.write t.o.cmd).1.i).rd (S.mk (t.write t.o.cmd).1.input (t.write t.o.cmd).1.pos (t.write t.o.cmd).1.pause (t.write t.o.cmd).1.got (t.write t.o.cmd).1.output ((t.write t.o.cmd).1.o.finish (t.write t.o.cmd).2 []).1 (t.write t.o.cmd).1.i).i.cmd).2.1).2.cells ki) (Sees.row (by simp [orow])) rfl (ans_one _ _) (by omega) (by decide) fun a capi Ci hOi => ?_
              obtain ⟨yi, rfl⟩ := own_some hOi (by omega)
              conv => whnf
              have e2 : S.tickIn (S.mk (t.write t.o.cmd).1.input (t.write t.o.cmd).1.pos (t.write t.o.cmd).1.pause (t.write t.o.cmd).1.got (t.write t.o.cmd).1.output ((t.write t.o.cmd).1.o.finish (t.write t.o.cmd).2 []).1 (t.write t.o.cmd).1.i) = ({ (S.mk (t.write t.o.cmd).1.input (t.write t.o.cmd).1.pos (t.write t.o.cmd).1.pause (t.write t.o.cmd).1.got (t.write t.o.cmd).1.output ((t.write t.o.cmd).1.o.finish (t.write t.o.cmd).2 []).1 (t.write t.o.cmd).1.i) with i := ((S.mk (t.write t.o.cmd).1.input (t.write t.o.cmd).1.pos (t.write t.o.cmd).1.pause (t.write t.o.cmd).1.got (t.write t.o.cmd).1.output ((t.write t.o.cmd).1.o.finish (t.write t.o.cmd).2 []).1 (t.write t.o.cmd).1.i).i.finish ((S.mk (t.write t.o.cmd).1.input (t.write t.o.cmd).1.pos (t.write t.o.cmd).1.pause (t.write t.o.cmd).1.got (t.write t.o.cmd).1.output ((t.write t.o.cmd).1.o.finish (t.write t.o.cmd).2 []).1 (t.write t.o.cmd).1.i).rd (S.mk (t.write t.o.cmd).1.input (t.write t.o.cmd).1.pos (t.write t.o.cmd).1.pause (t.write t.o.cmd).1.got (t.write t.o.cmd).1.output ((t.write t.o.cmd).1.o.finish (t.write t.o.cmd).2 []).1 (t.write t.o.cmd).1.i).i.cmd).1 ((S.mk (t.write t.o.cmd).1.input (t.write t.o.cmd).1.pos (t.write t.o.cmd).1.pause (t.write t.o.cmd).1.got (t.write t.o.cmd).1.output ((t.write t.o.cmd).1.o.finish (t.write t.o.cmd).2 []).1 (t.write t.o.cmd).1.i).rd (S.mk (t.write t.o.cmd).1.input (t.write t.o.cmd).1.pos (t.write t.o.cmd).1.pause (t.write t.o.cmd).1.got (t.write t.o.cmd).1.output ((t.write t.o.cmd).1.o.finish (t.write t.o.cmd).2 []).1 (t.write t.o.cmd).1.i).i.cmd).2.1).1 }, [((S.mk (t.write t.o.cmd).1.input (t.write t.o.cmd).1.pos (t.write t.o.cmd).1.pause (t.write t.o.cmd).1.got (t.write t.o.cmd).1.output ((t.write t.o.cmd).1.o.finish (t.write t.o.cmd).2 []).1 (t.write t.o.cmd).1.i).i.finish ((S.mk (t.write t.o.cmd).1.input (t.write t.o.cmd).1.pos (t.write t.o.cmd).1.pause (t.write t.o.cmd).1.got (t.write t.o.cmd).1.output ((t.write t.o.cmd).1.o.finish (t.write t.o.cmd).2 []).1 (t.write t.o.cmd).1.i).rd (S.mk (t.write t.o.cmd).1.input (t.write t.o.cmd).1.pos (t.write t.o.cmd).1.pause (t.write t.o.cmd).1.got (t.write t.o.cmd).1.output ((t.write t.o.cmd).1.o.finish (t.write t.o.cmd).2 []).1 (t.write t.o.cmd).1.i).i.cmd).1 ((S.mk (t.write t.o.cmd).1.input (t.write t.o.cmd).1.pos (t.write t.o.cmd).1.pause (t.write t.o.cmd).1.got (t.write t.o.cmd).1.output ((t.write t.o.cmd).1.o.finish (t.write t.o.cmd).2 []).1 (t.write t.o.cmd).1.i).rd (S.mk (t.write t.o.cmd).1.input (t.write t.o.cmd).1.pos (t.write t.o.cmd).1.pause (t.write t.o.cmd).1.got (t.write t.o.cmd).1.output ((t.write t.o.cmd).1.o.finish (t.write t.o.cmd).2 []).1 (t.write t.o.cmd).1.i).i.cmd).2.1).2]) := by simp only [S.tickIn, h4, h5, h6, if_true, Bool.false_eq_true, if_false]
              rw [e1]
              dsimp only
              rw [e2]
              refine ⟨⟨fun w => SH.By { (SH.mk gw.inp gw.got gw.out eo gw.i) with i := ei } { (S.mk (t.write t.o.cmd).1.input (t.write t.o.cmd).1.pos (t.write t.o.cmd).1.pause (t.write t.o.cmd).1.got (t.write t.o.cmd).1.output ((t.write t.o.cmd).1.o.finish (t.write t.o.cmd).2 []).1 (t.write t.o.cmd).1.i) with i := ((S.mk (t.write t.o.cmd).1.input (t.write t.o.cmd).1.pos (t.write t.o.cmd).1.pause (t.write t.o.cmd).1.got (t.write t.o.cmd).1.output ((t.write t.o.cmd).1.o.finish (t.write t.o.cmd).2 []).1 (t.write t.o.cmd).1.i).i.finish ((S.mk (t.write t.o.cmd).1.input (t.write t.o.cmd).1.pos (t.write t.o.cmd).1.pause (t.write t.o.cmd).1.got (t.write t.o.cmd).1.output ((t.write t.o.cmd).1.o.finish (t.write t.o.cmd).2 []).1 (t.write t.o.cmd).1.i).rd (S.mk (t.write t.o.cmd).1.input (t.write t.o.cmd).1.pos (t.write t.o.cmd).1.pause (t.write t.o.cmd).1.got (t.write t.o.cmd).1.output ((t.write t.o.cmd).1.o.finish (t.write t.o.cmd).2 []).1 (t.write t.o.cmd).1.i).i.cmd).1 ((S.mk (t.write t.o.cmd).1.input (t.write t.o.cmd).1.pos (t.write t.o.cmd).1.pause (t.write t.o.cmd).1.got (t.write t.o.cmd).1.output ((t.write t.o.cmd).1.o.finish (t.write t.o.cmd).2 []).1 (t.write t.o.cmd).1.i).rd (S.mk (t.write t.o.cmd).1.input (t.write t.o.cmd).1.pos (t.write t.o.cmd).1.pause (t.write t.o.cmd).1.got (t.write t.o.cmd).1.output ((t.write t.o.cmd).1.o.finish (t.write t.o.cmd).2 []).1 (t.write t.o.cmd).1.i).i.cmd).2.1).1 } w ∧ AnsAt w ⟨some ⟨yi, 0, none⟩, capi⟩ [(((t.write t.o.cmd).1.o.finish (t.write t.o.cmd).2 []).2, ko), (((S.mk (t.write t.o.cmd).1.input (t.write t.o.cmd).1.pos (t.write t.o.cmd).1.pause (t.write t.o.cmd).1.got (t.write t.o.cmd).1.output ((t.write t.o.cmd).1.o.finish (t.write t.o.cmd).2 []).1 (t.write t.o.cmd).1.i).i.finish ((S.mk (t.write t.o.cmd).1.input (t.write t.o.cmd).1.pos (t.write t.o.cmd).1.pause (t.write t.o.cmd).1.got (t.write t.o.cmd).1.output ((t.write t.o.cmd).1.o.finish (t.write t.o.cmd).2 []).1 (t.write t.o.cmd).1.i).rd (S.mk (t.write t.o.cmd).1.input (t.write t.o.cmd).1.pos (t.write t.o.cmd).1.pause (t.write t.o.cmd).1.got (t.write t.o.cmd).1.output ((t.write t.o.cmd).1.o.finish (t.write t.o.cmd).2 []).1 (t.write t.o.cmd).1.i).i.cmd).1 ((S.mk (t.write t.o.cmd).1.input (t.write t.o.cmd).1.pos (t.write t.o.cmd).1.pause (t.write t.o.cmd).1.got (t.write t.o.cmd).1.output ((t.write t.o.cmd).1.o.finish (t.write t.o.cmd).2 []).1 (t.write t.o.cmd).1.i).rd (S.mk (t.write t.o.cmd).1.input (t.write t.o.cmd).1.pos (t.write t.o.cmd).1.pause (t.write t.o.cmd).1.got (t.write t.o.cmd).1.output ((t.write t.o.cmd).1.o.finish (t.write t.o.cmd).2 []).1 (t.write t.o.cmd).1.i).i.cmd).2.1).2, ki)] ∧ By w k sent, []⟩, Ent.shareAll.trans (Ent.imp fun w hw => ?_), { (SH.mk gw.inp gw.got gw.out eo gw.i) with i := ei }, ⟨some ⟨yi, 0, none⟩, capi⟩, [(((t.write t.o.cmd).1.o.finish (t.write t.o.cmd).2 []).2, ko), (((S.mk (t.write t.o.cmd).1.input (t.write t.o.cmd).1.pos (t.write t.o.cmd).1.pause (t.write t.o.cmd).1.got (t.write t.o.cmd).1.output ((t.write t.o.cmd).1.o.finish (t.write t.o.cmd).2 []).1 (t.write t.o.cmd).1.i).i.finish ((S.mk (t.write t.o.cmd).1.input (t.write t.o.cmd).1.pos (t.write t.o.cmd).1.pause (t.write t.o.cmd).1.got (t.write t.o.cmd).1.output ((t.write t.o.cmd).1.o.finish (t.write t.o.cmd).2 []).1 (t.write t.o.cmd).1.i).rd (S.mk (t.write t.o.cmd).1.input (t.write t.o.cmd).1.pos (t.write t.o.cmd).1.pause (t.write t.o.cmd).1.got (t.write t.o.cmd).1.output ((t.write t.o.cmd).1.o.finish (t.write t.o.cmd).2 []).1 (t.write t.o.cmd).1.i).i.cmd).1 ((S.mk (t.write t.o.cmd).1.input (t.write t.o.cmd).1.pos (t.write t.o.cmd).1.pause (t.write t.o.cmd).1.got (t.write t.o.cmd).1.output ((t.write t.o.cmd).1.o.finish (t.write t.o.cmd).2 []).1 (t.write t.o.cmd).1.i).rd (S.mk (t.write t.o.cmd).1.input (t.write t.o.cmd).1.pos (t.write t.o.cmd).1.pause (t.write t.o.cmd).1.got (t.write t.o.cmd).1.output ((t.write t.o.cmd).1.o.finish (t.write t.o.cmd).2 []).1 (t.write t.o.cmd).1.i).i.cmd).2.1).2, ki)], k, rfl, ⟨hG.inp, hG.got, hG.out, hG.o, hei⟩, ⟨fun h => (by cases h), hOi.fit⟩, rfl, by simp [AnsOk]; exact ⟨hko, hki⟩, hk, rfl⟩
              obtain ⟨h, r1, _⟩ := hw
              have hG2 : SH.By (SH.mk gw.inp gw.got gw.out eo gw.i) (S.mk (t.write t.o.cmd).1.input (t.write t.o.cmd).1.pos (t.write t.o.cmd).1.pause (t.write t.o.cmd).1.got (t.write t.o.cmd).1.output ((t.write t.o.cmd).1.o.finish (t.write t.o.cmd).2 []).1 (t.write t.o.cmd).1.i) w := ⟨h.1.1.1.2.inp, h.1.1.1.2.got, h.1.1.1.2.out, h.1.1.2.1, h.1.1.1.2.i⟩
              have r3 := hOi.row r1
              refine ⟨⟨hG2.inp, hG2.got, hG2.out, hG2.o, h.2.1⟩, ⟨by simpa [ansCells] using r3, by simp; exact ⟨h.1.1.2.2, h.2.2⟩⟩, h.1.1.1.1.2.2⟩
            · conv => whnf
              have e2 : S.tickIn (S.mk (t.write t.o.cmd).1.input (t.write t.o.cmd).1.pos (t.write t.o.cmd).1.pause (t.write t.o.cmd).1.got (t.write t.o.cmd).1.output ((t.write t.o.cmd).1.o.finish (t.write t.o.cmd).2 []).1 (t.write t.o.cmd).1.i) = ((S.mk (t.write t.o.cmd).1.input (t.write t.o.cmd).1.pos (t.write t.o.cmd).1.pause (t.write t.o.cmd).1.got (t.write t.o.cmd).1.output ((t.write t.o.cmd).1.o.finish (t.write t.o.cmd).2 []).1 (t.write t.o.cmd).1.i), []) := by simp only [S.tickIn, h4, h5, h6, if_true, Bool.false_eq_true, if_false]
              rw [e1]
              dsimp only
              rw [e2]
              refine ⟨⟨fun w => SH.By (SH.mk gw.inp gw.got gw.out eo gw.i) (S.mk (t.write t.o.cmd).1.input (t.write t.o.cmd).1.pos (t.write t.o.cmd).1.pause (t.write t.o.cmd).1.got (t.write t.o.cmd).1.output ((t.write t.o.cmd).1.o.finish (t.write t.o.cmd).2 []).1 (t.write t.o.cmd).1.i) w ∧ AnsAt w ⟨some ⟨yo, 0, none⟩, capo⟩ [(((t.write t.o.cmd).1.o.finish (t.write t.o.cmd).2 []).2, ko)] ∧ By w k sent, []⟩, Ent.shareAll.trans (Ent.imp fun w hw => ?_), (SH.mk gw.inp gw.got gw.out eo gw.i), ⟨some ⟨yo, 0, none⟩, capo⟩, [(((t.write t.o.cmd).1.o.finish (t.write t.o.cmd).2 []).2, ko)], k, rfl, hG, ⟨fun h => (by cases h), hOo.fit⟩, rfl, by simp [AnsOk]; exact hko, hk, rfl⟩
              obtain ⟨h, r1, _⟩ := hw
              have r3 := hOo.row r1
              exact ⟨⟨h.1.1.2.inp, h.1.1.2.got, h.1.1.2.out, h.1.2.1, h.1.1.2.i⟩, ⟨by simpa [ansCells] using r3, by simp; exact h.1.2.2⟩, h.1.1.1.2.2⟩
          · conv => whnf
            refine XCall.ptr (finish_spec (S.mk (t.write t.o.cmd).1.input (t.write t.o.cmd).1.pos (t.write t.o.cmd).1.pause (t.write t.o.cmd).1.got (t.write t.o.cmd).1.output ((t.write t.o.cmd).1.o.finish (t.write t.o.cmd).2 []).1 (t.write t.o.cmd).1.i).i (SH.mk gw.inp gw.got gw.out eo gw.i).i hG.i fw.2 0 [] Hd.nil Hd.nil_ok (by simp)) 0 13 rfl rfl (fun w h => ⟨(⟨h.1.2.inp, h.1.2.got, h.1.2.out, h.2.1, h.1.2.i⟩ : SH.By (SH.mk gw.inp gw.got gw.out eo gw.i) (S.mk (t.write t.o.cmd).1.input (t.write t.o.cmd).1.pos (t.write t.o.cmd).1.pause (t.write t.o.cmd).1.got (t.write t.o.cmd).1.output ((t.write t.o.cmd).1.o.finish (t.write t.o.cmd).2 []).1 (t.write t.o.cmd).1.i) w).i, By.nil w⟩) ?_
            rintro v cs' F hleni ⟨ei, ki, rfl, rfl, hei, hki, rfl⟩
            conv => whnf
            refine XVal.build tabOk (t := 44) rfl rfl rfl [.agg ⟨((S.mk (t.write t.o.cmd).1.input (t.write t.o.cmd).1.pos (t.write t.o.cmd).1.pause (t.write t.o.cmd).1.got (t.write t.o.cmd).1.output ((t.write t.o.cmd).1.o.finish (t.write t.o.cmd).2 []).1 (t.write t.o.cmd).1.i).i.finish 0 []).2.cells ki⟩] rfl rfl (ans_sz _ _) (by decide) fun xi => ?_
            conv => whnf
            refine XVal.append tabOk (t := 44) (xt := 44) rfl rfl rfl rfl rfl rfl (r1 := []) (r2 := [(xo, ((t.write t.o.cmd).1.o.finish (t.write t.o.cmd).2 []).2.cells ko), (xi, ((S.mk (t.write t.o.cmd).1.input (t.write t.o.cmd).1.pos (t.write t.o.cmd).1.pause (t.write t.o.cmd).1.got (t.write t.o.cmd).1.output ((t.write t.o.cmd).1.o.finish (t.write t.o.cmd).2 []).1 (t.write t.o.cmd).1.i).i.finish 0 []).2.cells ki)]) hOo (M := ((S.mk (t.write t.o.cmd).1.input (t.write t.o.cmd).1.pos (t.write t.o.cmd).1.pause (t.write t.o.cmd).1.got (t.write t.o.cmd).1.output ((t.write t.o.cmd).1.o.finish (t.write t.o.cmd).2 []).1 (t.write t.o.cmd).1.i).i.finish 0 []).2.cells ki) (Sees.row (by simp [orow])) rfl (ans_one _ _) (by omega) (by decide) fun a capi Ci hOi => ?_
            obtain ⟨yi, rfl⟩ := own_some hOi (by omega)
            conv => whnf
            have e2 : S.tickIn (S.mk (t.write t.o.cmd).1.input (t.write t.o.cmd).1.pos (t.write t.o.cmd).1.pause (t.write t.o.cmd).1.got (t.write t.o.cmd).1.output ((t.write t.o.cmd).1.o.finish (t.write t.o.cmd).2 []).1 (t.write t.o.cmd).1.i) = ({ (S.mk (t.write t.o.cmd).1.input (t.write t.o.cmd).1.pos (t.write t.o.cmd).1.pause (t.write t.o.cmd).1.got (t.write t.o.cmd).1.output ((t.write t.o.cmd).1.o.finish (t.write t.o.cmd).2 []).1 (t.write t.o.cmd).1.i) with i := ((S.mk (t.write t.o.cmd).1.input (t.write t.o.cmd).1.pos (t.write t.o.cmd).1.pause (t.write t.o.cmd).1.got (t.write t.o.cmd).1.output ((t.write t.o.cmd).1.o.finish (t.write t.o.cmd).2 []).1 (t.write t.o.cmd).1.i).i.finish 0 []).1 }, [((S.mk (t.write t.o.cmd).1.input (t.write t.o.cmd).1.pos (t.write t.o.cmd).1.pause (t.write t.o.cmd).1.got (t.write t.o.cmd).1.output ((t.write t.o.cmd).1.o.finish (t.write t.o.cmd).2 []).1 (t.write t.o.cmd).1.i).i.finish 0 []).2]) := by simp only [S.tickIn, h4, h5, if_true, Bool.false_eq_true, if_false]
            rw [e1]
            dsimp only
            rw [e2]
            refine ⟨⟨fun w => SH.By { (SH.mk gw.inp gw.got gw.out eo gw.i) with i := ei } { (S.mk (t.write t.o.cmd).1.input (t.write t.o.cmd).1.pos (t.write t.o.cmd).1.pause (t.write t.o.cmd).1.got (t.write t.o.cmd).1.output ((t.write t.o.cmd).1.o.finish (t.write t.o.cmd).2 []).1 (t.write t.o.cmd).1.i) with i := ((S.mk (t.write t.o.cmd).1.input (t.write t.o.cmd).1.pos (t.write t.o.cmd).1.pause (t.write t.o.cmd).1.got (t.write t.o.cmd).1.output ((t.write t.o.cmd).1.o.finish (t.write t.o.cmd).2 []).1 (t.write t.o.cmd).1.i).i.finish 0 []).1 } w ∧ AnsAt w ⟨some ⟨yi, 0, none⟩, capi⟩ [(((t.write t.o.cmd).1.o.finish (t.write t.o.cmd).2 []).2, ko), (((S.mk (t.write t.o.cmd).1.input (t.write t.o.cmd).1.pos (t.write t.o.cmd).1.pause (t.write t.o.cmd).1.got (t.write t.o.cmd).1.output ((t.write t.o.cmd).1.o.finish (t.write t.o.cmd).2 []).1 (t.write t.o.cmd).1.i).i.finish 0 []).2, ki)] ∧ By w k sent, []⟩, Ent.shareAll.trans (Ent.imp fun w hw => ?_), { (SH.mk gw.inp gw.got gw.out eo gw.i) with i := ei }, ⟨some ⟨yi, 0, none⟩, capi⟩, [(((t.write t.o.cmd).1.o.finish (t.write t.o.cmd).2 []).2, ko), (((S.mk (t.write t.o.cmd).1.input (t.write t.o.cmd).1.pos (t.write t.o.cmd).1.pause (t.write t.o.cmd).1.got (t.write t.o.cmd).1.output ((t.write t.o.cmd).1.o.finish (t.write t.o.cmd).2 []).1 (t.write t.o.cmd).1.i).i.finish 0 []).2, ki)], k, rfl, ⟨hG.inp, hG.got, hG.out, hG.o, hei⟩, ⟨fun h => (by cases h), hOi.fit⟩, rfl, by simp [AnsOk]; exact ⟨hko, hki⟩, hk, rfl⟩
            obtain ⟨h, r1, _⟩ := hw
            have hG2 : SH.By (SH.mk gw.inp gw.got gw.out eo gw.i) (S.mk (t.write t.o.cmd).1.input (t.write t.o.cmd).1.pos (t.write t.o.cmd).1.pause (t.write t.o.cmd).1.got (t.write t.o.cmd).1.output ((t.write t.o.cmd).1.o.finish (t.write t.o.cmd).2 []).1 (t.write t.o.cmd).1.i) w := ⟨h.1.1.2.inp, h.1.1.2.got, h.1.1.2.out, h.1.2.1, h.1.1.2.i⟩
            have r3 := hOi.row r1
            refine ⟨⟨hG2.inp, hG2.got, hG2.out, hG2.o, h.2.1⟩, ⟨by simpa [ansCells] using r3, by simp; exact ⟨h.1.2.2, h.2.2⟩⟩, h.1.1.1.2.2⟩
        · conv => whnf
          have e2 : S.tickIn (S.mk (t.write t.o.cmd).1.input (t.write t.o.cmd).1.pos (t.write t.o.cmd).1.pause (t.write t.o.cmd).1.got (t.write t.o.cmd).1.output ((t.write t.o.cmd).1.o.finish (t.write t.o.cmd).2 []).1 (t.write t.o.cmd).1.i) = ((S.mk (t.write t.o.cmd).1.input (t.write t.o.cmd).1.pos (t.write t.o.cmd).1.pause (t.write t.o.cmd).1.got (t.write t.o.cmd).1.output ((t.write t.o.cmd).1.o.finish (t.write t.o.cmd).2 []).1 (t.write t.o.cmd).1.i), []) := by simp only [S.tickIn, h4, if_true, Bool.false_eq_true, if_false]
          rw [e1]
          dsimp only
          rw [e2]
          refine ⟨⟨fun w => SH.By (SH.mk gw.inp gw.got gw.out eo gw.i) (S.mk (t.write t.o.cmd).1.input (t.write t.o.cmd).1.pos (t.write t.o.cmd).1.pause (t.write t.o.cmd).1.got (t.write t.o.cmd).1.output ((t.write t.o.cmd).1.o.finish (t.write t.o.cmd).2 []).1 (t.write t.o.cmd).1.i) w ∧ AnsAt w ⟨some ⟨yo, 0, none⟩, capo⟩ [(((t.write t.o.cmd).1.o.finish (t.write t.o.cmd).2 []).2, ko)] ∧ By w k sent, []⟩, Ent.shareAll.trans (Ent.imp fun w hw => ?_), (SH.mk gw.inp gw.got gw.out eo gw.i), ⟨some ⟨yo, 0, none⟩, capo⟩, [(((t.write t.o.cmd).1.o.finish (t.write t.o.cmd).2 []).2, ko)], k, rfl, hG, ⟨fun h => (by cases h), hOo.fit⟩, rfl, by simp [AnsOk]; exact hko, hk, rfl⟩
          obtain ⟨h, r1, _⟩ := hw
          have r3 := hOo.row r1
          exact ⟨⟨h.1.2.inp, h.1.2.got, h.1.2.out, h.2.1, h.1.2.i⟩, ⟨by simpa [ansCells] using r3, by simp; exact h.2.2⟩, h.1.1.2.2⟩
      · conv => whnf
        refine XCall.ptr (finish_spec t.o g.o hg.o f1.1 0 [] Hd.nil Hd.nil_ok (by simp)) 0 5 rfl rfl (fun w h => ⟨h.2.1.o, By.nil w⟩) ?_
        rintro v cs' F hleno ⟨eo, ko, rfl, rfl, heo, hko, rfl⟩
        conv => whnf
        refine XVal.build tabOk (t := 44) rfl rfl rfl [.agg ⟨(t.o.finish 0 []).2.cells ko⟩] rfl rfl (ans_sz _ _) (by decide) fun xo => ?_
        conv => whnf
        refine XVal.append tabOk (t := 44) (xt := 44) rfl rfl rfl rfl rfl rfl (r1 := []) (r2 := [(xo, (t.o.finish 0 []).2.cells ko)]) (Own.nil _) (M := (t.o.finish 0 []).2.cells ko) (Sees.row (by simp [orow])) rfl (ans_one _ _) (by omega) (by decide) fun a capo Co hOo => ?_
        obtain ⟨yo, rfl⟩ := own_some hOo (by omega)
        conv => whnf
        have e1 : t.tickOut = ((S.mk t.input t.pos t.pause t.got t.output (t.o.finish 0 []).1 t.i), [(t.o.finish 0 []).2]) := by simp only [S.tickOut, h2, h3, if_true, Bool.false_eq_true, if_false]
        have hG : SH.Ok (SH.mk g.inp g.got g.out eo g.i) (S.mk t.input t.pos t.pause t.got t.output (t.o.finish 0 []).1 t.i) := ⟨hg.inp, hg.got, hg.out, heo, hg.i⟩
        intro b7
        conv => whnf
        refine XIf.split (fun h4 => ?_) (fun h4 => ?_)
        · conv => whnf
          refine XIf.split (fun h5 => ?_) (fun h5 => ?_)
          · conv => whnf
            refine XCall.ptr (read_spec (S.mk t.input t.pos t.pause t.got t.output (t.o.finish 0 []).1 t.i) (SH.mk g.inp g.got g.out eo g.i) hG a6 (S.mk t.input t.pos t.pause t.got t.output (t.o.finish 0 []).1 t.i).i.cmd (SH.mk g.inp g.got g.out eo g.i).i.d) 0 0 rfl rfl (fun w h => ⟨h.1.2.1.inp, h.1.2.1.got, h.1.2.1.out, h.2.1, h.1.2.1.i⟩) ?_
            rintro v cs' F hlenr ⟨kr, rfl, rfl, hkr, rfl⟩
            conv => whnf
            refine XIf.split (fun h6 => ?_) (fun h6 => ?_)
            · conv => whnf
              refine XCall.ptr (finish_spec (S.mk t.input t.pos t.pause t.got t.output (t.o.finish 0 []).1 t.i).i (SH.mk g.inp g.got g.out eo g.i).i hG.i f1.2 ((S.mk t.input t.pos t.pause t.got t.output (t.o.finish 0 []).1 t.i).rd (S.mk t.input t.pos t.pause t.got t.output (t.o.finish 0 []).1 t.i).i.cmd).1 ((S.mk t.input t.pos t.pause t.got t.output (t.o.finish 0 []).1 t.i).rd (S.mk t.input t.pos t.pause t.got t.output (t.o.finish 0 []).1 t.i).i.cmd).2.1 kr hkr (rd_len _ _)) 0 13 rfl rfl (fun w h => ⟨(⟨h.1.1.2.1.inp, h.1.1.2.1.got, h.1.1.2.1.out, h.1.2.1, h.1.1.2.1.i⟩ : SH.By (SH.mk g.inp g.got g.out eo g.i) (S.mk t.input t.pos t.pause t.got t.output (t.o.finish 0 []).1 t.i) w).i, h.2⟩) ?_
              rintro v cs' F hleni ⟨ei, ki, rfl, rfl, hei, hki, rfl⟩
              conv => whnf
              refine XVal.build tabOk (t := 44) rfl rfl rfl [.agg ⟨((S.mk t.input t.pos t.pause t.got t.output (t.o.finish 0 []).1 t.i).i.finish ((S.mk t.input t.pos t.pause t.got t.output (t.o.finish 0 []).1 t.i).rd (S.mk t.input t.pos t.pause t.got t.output (t.o.finish 0 []).1 t.i).i.cmd).1 ((S.mk t.input t.pos t.pause t.got t.output (t.o.finish 0 []).1 t.i).rd (S.mk t.input t.pos t.pause t.got t.output (t.o.finish 0 []).1 t.i).i.cmd).2.1).2.cells ki⟩] rfl rfl (ans_sz _ _) (by decide) fun xi => ?_
              conv => whnf
              refine XVal.append tabOk (t := 44) (xt := 44) rfl rfl rfl rfl rfl rfl (r1 := []) (r2 := [(xo, (t.o.finish 0 []).2.cells ko), (xi, ((S.mk t.input t.pos t.pause t.got t.output (t.o.finish 0 []).1 t.i).i.finish ((S.mk t.input t.pos t.pause t.got t.output (t.o.finish 0 []).1 t.i).rd (S.mk t.input t.pos t.pause t.got t.output (t.o.finish 0 []).1 t.i).i.cmd).1 ((S.mk t.input t.pos t.pause t.got t.output (t.o.finish 0 []).1 t.i).rd (S.mk t.input t.pos t.pause t.got t.output (t.o.finish 0 []).1 t.i).i.cmd).2.1).2.cells ki)]) hOo (M := ((S.mk t.input t.pos t.pause t.got t.output (t.o.finish 0 []).1 t.i).i.finish ((S.mk t.input t.pos t.pause t.got t.output (t.o.finish 0 []).1 t.i).rd (S.mk t.input t.pos t.pause t.got t.output (t.o.finish 0 []).1 t.i).i.cmd).1 ((S.mk t.input t.pos t.pause t.got t.output (t.o.finish 0 []).1 t.i).rd (S.mk t.input t.pos t.pause t.got t.output (t.o.finish 0 []).1 t.i).i.cmd).2.1).2.cells ki) (Sees.row (by simp [orow])) rfl (ans_one _ _) (by omega) (by decide) fun a capi Ci hOi => ?_
              obtain ⟨yi, rfl⟩ := own_some hOi (by omega)
              conv => whnf
              have e2 : S.tickIn (S.mk t.input t.pos t.pause t.got t.output (t.o.finish 0 []).1 t.i) = ({ (S.mk t.input t.pos t.pause t.got t.output (t.o.finish 0 []).1 t.i) with i := ((S.mk t.input t.pos t.pause t.got t.output (t.o.finish 0 []).1 t.i).i.finish ((S.mk t.input t.pos t.pause t.got t.output (t.o.finish 0 []).1 t.i).rd (S.mk t.input t.pos t.pause t.got t.output (t.o.finish 0 []).1 t.i).i.cmd).1 ((S.mk t.input t.pos t.pause t.got t.output (t.o.finish 0 []).1 t.i).rd (S.mk t.input t.pos t.pause t.got t.output (t.o.finish 0 []).1 t.i).i.cmd).2.1).1 }, [((S.mk t.input t.pos t.pause t.got t.output (t.o.finish 0 []).1 t.i).i.finish ((S.mk t.input t.pos t.pause t.got t.output (t.o.finish 0 []).1 t.i).rd (S.mk t.input t.pos t.pause t.got t.output (t.o.finish 0 []).1 t.i).i.cmd).1 ((S.mk t.input t.pos t.pause t.got t.output (t.o.finish 0 []).1 t.i).rd (S.mk t.input t.pos t.pause t.got t.output (t.o.finish 0 []).1 t.i).i.cmd).2.1).2]) := by simp only [S.tickIn, h4, h5, h6, if_true, Bool.false_eq_true, if_false]
              rw [e1]
              dsimp only
              rw [e2]
              refine ⟨⟨fun w => SH.By { (SH.mk g.inp g.got g.out eo g.i) with i := ei } { (S.mk t.input t.pos t.pause t.got t.output (t.o.finish 0 []).1 t.i) with i := ((S.mk t.input t.pos t.pause t.got t.output (t.o.finish 0 []).1 t.i).i.finish ((S.mk t.input t.pos t.pause t.got t.output (t.o.finish 0 []).1 t.i).rd (S.mk t.input t.pos t.pause t.got t.output (t.o.finish 0 []).1 t.i).i.cmd).1 ((S.mk t.input t.pos t.pause t.got t.output (t.o.finish 0 []).1 t.i).rd (S.mk t.input t.pos t.pause t.got t.output (t.o.finish 0 []).1 t.i).i.cmd).2.1).1 } w ∧ AnsAt w ⟨some ⟨yi, 0, none⟩, capi⟩ [((t.o.finish 0 []).2, ko), (((S.mk t.input t.pos t.pause t.got t.output (t.o.finish 0 []).1 t.i).i.finish ((S.mk t.input t.pos t.pause t.got t.output (t.o.finish 0 []).1 t.i).rd (S.mk t.input t.pos t.pause t.got t.output (t.o.finish 0 []).1 t.i).i.cmd).1 ((S.mk t.input t.pos t.pause t.got t.output (t.o.finish 0 []).1 t.i).rd (S.mk t.input t.pos t.pause t.got t.output (t.o.finish 0 []).1 t.i).i.cmd).2.1).2, ki)] ∧ By w k sent, []⟩, Ent.shareAll.trans (Ent.imp fun w hw => ?_), { (SH.mk g.inp g.got g.out eo g.i) with i := ei }, ⟨some ⟨yi, 0, none⟩, capi⟩, [((t.o.finish 0 []).2, ko), (((S.mk t.input t.pos t.pause t.got t.output (t.o.finish 0 []).1 t.i).i.finish ((S.mk t.input t.pos t.pause t.got t.output (t.o.finish 0 []).1 t.i).rd (S.mk t.input t.pos t.pause t.got t.output (t.o.finish 0 []).1 t.i).i.cmd).1 ((S.mk t.input t.pos t.pause t.got t.output (t.o.finish 0 []).1 t.i).rd (S.mk t.input t.pos t.pause t.got t.output (t.o.finish 0 []).1 t.i).i.cmd).2.1).2, ki)], k, rfl, ⟨hG.inp, hG.got, hG.out, hG.o, hei⟩, ⟨fun h => (by cases h), hOi.fit⟩, rfl, by simp [AnsOk]; exact ⟨hko, hki⟩, hk, rfl⟩
              obtain ⟨h, r1, _⟩ := hw
              have hG2 : SH.By (SH.mk g.inp g.got g.out eo g.i) (S.mk t.input t.pos t.pause t.got t.output (t.o.finish 0 []).1 t.i) w := ⟨h.1.1.1.2.1.inp, h.1.1.1.2.1.got, h.1.1.1.2.1.out, h.1.1.2.1, h.1.1.1.2.1.i⟩
              have r3 := hOi.row r1
              refine ⟨⟨hG2.inp, hG2.got, hG2.out, hG2.o, h.2.1⟩, ⟨by simpa [ansCells] using r3, by simp; exact ⟨h.1.1.2.2, h.2.2⟩⟩, h.1.1.1.2.2⟩
            · conv => whnf
              have e2 : S.tickIn (S.mk t.input t.pos t.pause t.got t.output (t.o.finish 0 []).1 t.i) = ((S.mk t.input t.pos t.pause t.got t.output (t.o.finish 0 []).1 t.i), []) := by simp only [S.tickIn, h4, h5, h6, if_true, Bool.false_eq_true, if_false]
              rw [e1]
              dsimp only
              rw [e2]
              refine ⟨⟨fun w => SH.By (SH.mk g.inp g.got g.out eo g.i) (S.mk t.input t.pos t.pause t.got t.output (t.o.finish 0 []).1 t.i) w ∧ AnsAt w ⟨some ⟨yo, 0, none⟩, capo⟩ [((t.o.finish 0 []).2, ko)] ∧ By w k sent, []⟩, Ent.shareAll.trans (Ent.imp fun w hw => ?_), (SH.mk g.inp g.got g.out eo g.i), ⟨some ⟨yo, 0, none⟩, capo⟩, [((t.o.finish 0 []).2, ko)], k, rfl, hG, ⟨fun h => (by cases h), hOo.fit⟩, rfl, by simp [AnsOk]; exact hko, hk, rfl⟩
              obtain ⟨h, r1, _⟩ := hw
              have r3 := hOo.row r1
              exact ⟨⟨h.1.1.2.1.inp, h.1.1.2.1.got, h.1.1.2.1.out, h.1.2.1, h.1.1.2.1.i⟩, ⟨by simpa [ansCells] using r3, by simp; exact h.1.2.2⟩, h.1.1.2.2⟩
          · conv => whnf
            refine XCall.ptr (finish_spec (S.mk t.input t.pos t.pause t.got t.output (t.o.finish 0 []).1 t.i).i (SH.mk g.inp g.got g.out eo g.i).i hG.i f1.2 0 [] Hd.nil Hd.nil_ok (by simp)) 0 13 rfl rfl (fun w h => ⟨(⟨h.1.2.1.inp, h.1.2.1.got, h.1.2.1.out, h.2.1, h.1.2.1.i⟩ : SH.By (SH.mk g.inp g.got g.out eo g.i) (S.mk t.input t.pos t.pause t.got t.output (t.o.finish 0 []).1 t.i) w).i, By.nil w⟩) ?_
            rintro v cs' F hleni ⟨ei, ki, rfl, rfl, hei, hki, rfl⟩
            conv => whnf
            refine XVal.build tabOk (t := 44) rfl rfl rfl [.agg ⟨((S.mk t.input t.pos t.pause t.got t.output (t.o.finish 0 []).1 t.i).i.finish 0 []).2.cells ki⟩] rfl rfl (ans_sz _ _) (by decide) fun xi => ?_
            conv => whnf
            refine XVal.append tabOk (t := 44) (xt := 44) rfl rfl rfl rfl rfl rfl (r1 := []) (r2 := [(xo, (t.o.finish 0 []).2.cells ko), (xi, ((S.mk t.input t.pos t.pause t.got t.output (t.o.finish 0 []).1 t.i).i.finish 0 []).2.cells ki)]) hOo (M := ((S.mk t.input t.pos t.pause t.got t.output (t.o.finish 0 []).1 t.i).i.finish 0 []).2.cells ki) (Sees.row (by simp [orow])) rfl (ans_one _ _) (by omega) (by decide) fun a capi Ci hOi => ?_
            obtain ⟨yi, rfl⟩ := own_some hOi (by omega)
            conv => whnf
            have e2 : S.tickIn (S.mk t.input t.pos t.pause t.got t.output (t.o.finish 0 []).1 t.i) = ({ (S.mk t.input t.pos t.pause t.got t.output (t.o.finish 0 []).1 t.i) with i := ((S.mk t.input t.pos t.pause t.got t.output (t.o.finish 0 []).1 t.i).i.finish 0 []).1 }, [((S.mk t.input t.pos t.pause t.got t.output (t.o.finish 0 []).1 t.i).i.finish 0 []).2]) := by simp only [S.tickIn, h4, h5, if_true, Bool.false_eq_true, if_false]
            rw [e1]
            dsimp only
            rw [e2]
            refine ⟨⟨fun w => SH.By { (SH.mk g.inp g.got g.out eo g.i) with i := ei } { (S.mk t.input t.pos t.pause t.got t.output (t.o.finish 0 []).1 t.i) with i := ((S.mk t.input t.pos t.pause t.got t.output (t.o.finish 0 []).1 t.i).i.finish 0 []).1 } w ∧ AnsAt w ⟨some ⟨yi, 0, none⟩, capi⟩ [((t.o.finish 0 []).2, ko), (((S.mk t.input t.pos t.pause t.got t.output (t.o.finish 0 []).1 t.i).i.finish 0 []).2, ki)] ∧ By w k sent, []⟩, Ent.shareAll.trans (Ent.imp fun w hw => ?_), { (SH.mk g.inp g.got g.out eo g.i) with i := ei }, ⟨some ⟨yi, 0, none⟩, capi⟩, [((t.o.finish 0 []).2, ko), (((S.mk t.input t.pos t.pause t.got t.output (t.o.finish 0 []).1 t.i).i.finish 0 []).2, ki)], k, rfl, ⟨hG.inp, hG.got, hG.out, hG.o, hei⟩, ⟨fun h => (by cases h), hOi.fit⟩, rfl, by simp [AnsOk]; exact ⟨hko, hki⟩, hk, rfl⟩
            obtain ⟨h, r1, _⟩ := hw
            have hG2 : SH.By (SH.mk g.inp g.got g.out eo g.i) (S.mk t.input t.pos t.pause t.got t.output (t.o.finish 0 []).1 t.i) w := ⟨h.1.1.2.1.inp, h.1.1.2.1.got, h.1.1.2.1.out, h.1.2.1, h.1.1.2.1.i⟩
            have r3 := hOi.row r1
            refine ⟨⟨hG2.inp, hG2.got, hG2.out, hG2.o, h.2.1⟩, ⟨by simpa [ansCells] using r3, by simp; exact ⟨h.1.2.2, h.2.2⟩⟩, h.1.1.2.2⟩
        · conv => whnf
          have e2 : S.tickIn (S.mk t.input t.pos t.pause t.got t.output (t.o.finish 0 []).1 t.i) = ((S.mk t.input t.pos t.pause t.got t.output (t.o.finish 0 []).1 t.i), []) := by simp only [S.tickIn, h4, if_true, Bool.false_eq_true, if_false]
          rw [e1]
          dsimp only
          rw [e2]
          refine ⟨⟨fun w => SH.By (SH.mk g.inp g.got g.out eo g.i) (S.mk t.input t.pos t.pause t.got t.output (t.o.finish 0 []).1 t.i) w ∧ AnsAt w ⟨some ⟨yo, 0, none⟩, capo⟩ [((t.o.finish 0 []).2, ko)] ∧ By w k sent, []⟩, Ent.shareAll.trans (Ent.imp fun w hw => ?_), (SH.mk g.inp g.got g.out eo g.i), ⟨some ⟨yo, 0, none⟩, capo⟩, [((t.o.finish 0 []).2, ko)], k, rfl, hG, ⟨fun h => (by cases h), hOo.fit⟩, rfl, by simp [AnsOk]; exact hko, hk, rfl⟩
          obtain ⟨h, r1, _⟩ := hw
          have r3 := hOo.row r1
          exact ⟨⟨h.1.2.1.inp, h.1.2.1.got, h.1.2.1.out, h.2.1, h.1.2.1.i⟩, ⟨by simpa [ansCells] using r3, by simp; exact h.2.2⟩, h.1.2.2⟩
    · conv => whnf
      have e1 : t.tickOut = (t, []) := by simp only [S.tickOut, h2, Bool.false_eq_true, if_false]
      have hG : SH.Ok g t := hg
      intro b7
      conv => whnf
      refine XIf.split (fun h4 => ?_) (fun h4 => ?_)
      · conv => whnf
        refine XIf.split (fun h5 => ?_) (fun h5 => ?_)
        · conv => whnf
          refine XCall.ptr (read_spec t g hG a6 t.i.cmd g.i.d) 0 0 rfl rfl (fun w h => h.2.1) ?_
          rintro v cs' F hlenr ⟨kr, rfl, rfl, hkr, rfl⟩
          conv => whnf
          refine XIf.split (fun h6 => ?_) (fun h6 => ?_)
          · conv => whnf
            refine XCall.ptr (finish_spec t.i g.i hG.i f1.2 (t.rd t.i.cmd).1 (t.rd t.i.cmd).2.1 kr hkr (rd_len _ _)) 0 13 rfl rfl (fun w h => ⟨(h.1.2.1 : SH.By g t w).i, h.2⟩) ?_
            rintro v cs' F hleni ⟨ei, ki, rfl, rfl, hei, hki, rfl⟩
            conv => whnf
            refine XVal.build tabOk (t := 44) rfl rfl rfl [.agg ⟨(t.i.finish (t.rd t.i.cmd).1 (t.rd t.i.cmd).2.1).2.cells ki⟩] rfl rfl (ans_sz _ _) (by decide) fun xi => ?_
            conv => whnf
            refine XVal.append tabOk (t := 44) (xt := 44) rfl rfl rfl rfl rfl rfl (r1 := []) (r2 := [(xi, (t.i.finish (t.rd t.i.cmd).1 (t.rd t.i.cmd).2.1).2.cells ki)]) (Own.nil _) (M := (t.i.finish (t.rd t.i.cmd).1 (t.rd t.i.cmd).2.1).2.cells ki) (Sees.row (by simp [orow])) rfl (ans_one _ _) (by omega) (by decide) fun a capi Ci hOi => ?_
            obtain ⟨yi, rfl⟩ := own_some hOi (by omega)
            conv => whnf
            have e2 : S.tickIn t = ({ t with i := (t.i.finish (t.rd t.i.cmd).1 (t.rd t.i.cmd).2.1).1 }, [(t.i.finish (t.rd t.i.cmd).1 (t.rd t.i.cmd).2.1).2]) := by simp only [S.tickIn, h4, h5, h6, if_true, Bool.false_eq_true, if_false]
            rw [e1]
            dsimp only
            rw [e2]
            refine ⟨⟨fun w => SH.By { g with i := ei } { t with i := (t.i.finish (t.rd t.i.cmd).1 (t.rd t.i.cmd).2.1).1 } w ∧ AnsAt w ⟨some ⟨yi, 0, none⟩, capi⟩ [((t.i.finish (t.rd t.i.cmd).1 (t.rd t.i.cmd).2.1).2, ki)] ∧ By w k sent, []⟩, Ent.shareAll.trans (Ent.imp fun w hw => ?_), { g with i := ei }, ⟨some ⟨yi, 0, none⟩, capi⟩, [((t.i.finish (t.rd t.i.cmd).1 (t.rd t.i.cmd).2.1).2, ki)], k, rfl, ⟨hG.inp, hG.got, hG.out, hG.o, hei⟩, ⟨fun h => (by cases h), hOi.fit⟩, rfl, by simp [AnsOk]; exact hki, hk, rfl⟩
            obtain ⟨h, r1, _⟩ := hw
            have hG2 : SH.By g t w := h.1.1.2.1
            have r3 := hOi.row r1
            refine ⟨⟨hG2.inp, hG2.got, hG2.out, hG2.o, h.2.1⟩, ⟨by simpa [ansCells] using r3, by simp; exact h.2.2⟩, h.1.1.2.2⟩
          · conv => whnf
            have e2 : S.tickIn t = (t, []) := by simp only [S.tickIn, h4, h5, h6, if_true, Bool.false_eq_true, if_false]
            rw [e1]
            dsimp only
            rw [e2]
            refine ⟨⟨fun w => SH.By g t w ∧ AnsAt w Hd.nil [] ∧ By w k sent, []⟩, Ent.shareAll.trans (Ent.imp fun w hw => ?_), g, Hd.nil, [], k, rfl, hG, Hd.nil_ok, rfl, by simp [AnsOk], hk, rfl⟩
            obtain ⟨h, _⟩ := hw
            exact ⟨h.1.2.1, ⟨rfl, by simp⟩, h.1.2.2⟩
        · conv => whnf
          refine XCall.ptr (finish_spec t.i g.i hG.i f1.2 0 [] Hd.nil Hd.nil_ok (by simp)) 0 13 rfl rfl (fun w h => ⟨(h.2.1 : SH.By g t w).i, By.nil w⟩) ?_
          rintro v cs' F hleni ⟨ei, ki, rfl, rfl, hei, hki, rfl⟩
          conv => whnf
          refine XVal.build tabOk (t := 44) rfl rfl rfl [.agg ⟨(t.i.finish 0 []).2.cells ki⟩] rfl rfl (ans_sz _ _) (by decide) fun xi => ?_
          conv => whnf
          refine XVal.append tabOk (t := 44) (xt := 44) rfl rfl rfl rfl rfl rfl (r1 := []) (r2 := [(xi, (t.i.finish 0 []).2.cells ki)]) (Own.nil _) (M := (t.i.finish 0 []).2.cells ki) (Sees.row (by simp [orow])) rfl (ans_one _ _) (by omega) (by decide) fun a capi Ci hOi => ?_
          obtain ⟨yi, rfl⟩ := own_some hOi (by omega)
          conv => whnf
          have e2 : S.tickIn t = ({ t with i := (t.i.finish 0 []).1 }, [(t.i.finish 0 []).2]) := by simp only [S.tickIn, h4, h5, if_true, Bool.false_eq_true, if_false]
          rw [e1]
          dsimp only
          rw [e2]
          refine ⟨⟨fun w => SH.By { g with i := ei } { t with i := (t.i.finish 0 []).1 } w ∧ AnsAt w ⟨some ⟨yi, 0, none⟩, capi⟩ [((t.i.finish 0 []).2, ki)] ∧ By w k sent, []⟩, Ent.shareAll.trans (Ent.imp fun w hw => ?_), { g with i := ei }, ⟨some ⟨yi, 0, none⟩, capi⟩, [((t.i.finish 0 []).2, ki)], k, rfl, ⟨hG.inp, hG.got, hG.out, hG.o, hei⟩, ⟨fun h => (by cases h), hOi.fit⟩, rfl, by simp [AnsOk]; exact hki, hk, rfl⟩
          obtain ⟨h, r1, _⟩ := hw
          have hG2 : SH.By g t w := h.1.2.1
          have r3 := hOi.row r1
          refine ⟨⟨hG2.inp, hG2.got, hG2.out, hG2.o, h.2.1⟩, ⟨by simpa [ansCells] using r3, by simp; exact h.2.2⟩, h.1.2.2⟩
      · conv => whnf
        have e2 : S.tickIn t = (t, []) := by simp only [S.tickIn, h4, if_true, Bool.false_eq_true, if_false]
        rw [e1]
        dsimp only
        rw [e2]
        refine ⟨⟨fun w => SH.By g t w ∧ AnsAt w Hd.nil [] ∧ By w k sent, []⟩, Ent.shareAll.trans (Ent.imp fun w hw => ?_), g, Hd.nil, [], k, rfl, hG, Hd.nil_ok, rfl, by simp [AnsOk], hk, rfl⟩
        obtain ⟨h, _⟩ := hw
        exact ⟨h.2.1, ⟨rfl, by simp⟩, h.2.2⟩
    -- paths end

end Go.Proofs.Ytcmgioaggmaclaa
