/- Parts of the proof: NbJ, NbK, NbL, ShB, NaA, NaB, NaC, NaD, NaE, NaF, NbM. -/
import Derived.Test.YtfeoedkmndkbjaaGreatDoorQI
import Derived.Test.YtfeoedkmndkbjaaGreatDoorQJ
import Derived.Shelf.Strings.Search1
import Derived.Shelf.Strings.Search2
import Derived.Shelf.Strings.Search3
import Derived.Shelf.Strings.Count
import Derived.Test.YtfeoedkmndkbjaaGreatDoorProg
import Derived.Test.YtfeoedkmndkbjaaGreatDoorQE
import Derived.Test.YtfeoedkmndkbjaaGreatDoorQD
namespace Go.Proofs.YtfeoedkmndkbjaaGreatDoor
open Go Go.Sx
set_option maxRecDepth 100000
set_option maxHeartbeats 4000000
set_option linter.unusedVariables false
set_option linter.unusedSimpArgs false

theorem getL_ino (d : List UInt8) (n : Int) : ∃ k s b, getL d n = inoL k s b ∧ (gete d n = 0 → k = rk d n.toNat ∧ s = rs d n.toNat ∧ b = rb d n.toNat) := by
  unfold getL
  by_cases h : gete d n = 0
  · rw [if_pos h]
    exact ⟨_, _, _, rfl, fun _ => ⟨rfl, rfl, rfl⟩⟩
  · rw [if_neg h]
    exact ⟨_, _, _, rfl, fun h2 => absurd h2 h⟩

theorem gete_zero {d : List UInt8} {n : Int} (h : gete d n = 0) : d.length = 12288 ∧ Ok37 d ∧ ∃ m : Nat, n = m ∧ m < 32 ∧ rk d m ≠ 0 := by
  unfold gete at h
  by_cases h1 : chk d = 0
  · rw [if_neg (by simp [h1])] at h
    by_cases h2 : n < 0 ∨ 32 ≤ n
    · rw [if_pos h2] at h
      cases h
    · rw [if_neg h2] at h
      by_cases h3 : rk d n.toNat = 0
      · rw [if_pos h3] at h
        cases h
      · obtain ⟨q1, q2⟩ := chk_zero h1
        exact ⟨q1, q2, n.toNat, by omega, by omega, h3⟩
  · rw [if_pos h1] at h
    exact absurd h h1

/-- A disk (or nil) and an error. -/
def RelDE (d : List UInt8) (e : Nat) (v : Value) (F : Fx) : Prop := ∃ h : Hd, v = .tuple #[h.v d.length, .int .i64 (e : Int)] ∧ h.Ok d.length ∧ F = ⟨fun w => By w h d, []⟩

theorem relDE_nil {D : World → Prop} {rs : List (Nat × Row)} {e : Nat} : ∃ F', Ent ⟨D, rs⟩ F' ∧ RelDE [] e (.tuple #[.slice none 0 0, .int .i64 (e : Int)]) F' :=
  ⟨⟨fun w => By w Hd.nil [], []⟩, Ent.bare fun w _ => By.nil w, Hd.nil, rfl, Hd.nil_ok, rfl⟩

/-- A row of the caller's own, or nil, and an error. -/
def RelDW (d : List UInt8) (e : Nat) (v : Value) (F : Fx) : Prop := (∃ b cap Z, v = .tuple #[.slice (some ⟨b, 0, none⟩) d.length cap, .int .i64 (e : Int)] ∧ d.length ≤ cap ∧ F = ⟨fun _ => True, [(b, Row.c (d.map byteV ++ Z))]⟩) ∨
  (d = [] ∧ v = .tuple #[.slice none 0 0, .int .i64 (e : Int)] ∧ F = ⟨fun _ => True, []⟩)

theorem relDW_nil {D : World → Prop} {rs : List (Nat × Row)} {e : Nat} : ∃ F', Ent ⟨D, rs⟩ F' ∧ RelDW [] e (.tuple #[.slice none 0 0, .int .i64 (e : Int)]) F' :=
  ⟨⟨fun _ => True, []⟩, Ent.bare fun w _ => trivial, .inr ⟨rfl, rfl, rfl⟩⟩

theorem relDW_down {f : FuncId} {vs : List Value} {Pre : World → Prop} {d : List UInt8} {e : Nat} (h : PureSpec Tryz.prog f vs Pre (RelDW d e)) : PureSpec Tryz.prog f vs Pre (RelDE d e) :=
  h.weaken fun v F hv => by
    rcases hv with ⟨b, cap, Z, rfl, hc, rfl⟩ | ⟨rfl, rfl, rfl⟩
    · exact ⟨⟨fun w => By w ⟨some ⟨b, 0, none⟩, cap⟩ d, []⟩, Ent.giveB (r1 := []) (r2 := []), ⟨some ⟨b, 0, none⟩, cap⟩, rfl, ⟨fun h => (by cases h), hc⟩, rfl⟩
    · exact relDE_nil

end Go.Proofs.YtfeoedkmndkbjaaGreatDoor
namespace Go.Proofs.YtfeoedkmndkbjaaGreatDoor
open Go Go.Sx
set_option maxRecDepth 100000
set_option maxHeartbeats 4000000
set_option linter.unusedVariables false
set_option linter.unusedSimpArgs false

def blockOf (d : List UInt8) (x : Nat) : List UInt8 := if x = 0 then List.replicate 128 0 else cut d (128 * x) 128

theorem blockOf_len {d : List UInt8} (hd : d.length = 12288) {x : Nat} (hx : x < 96) : (blockOf d x).length = 128 := by
  unfold blockOf
  split
  · simp
  · exact cut_len (by omega)

def contB (d : List UInt8) (b : Nat → Nat) : Nat → List UInt8
  | 0 => []
  | i + 1 => contB d b i ++ blockOf d (b i)

theorem contB_len {d : List UInt8} (hd : d.length = 12288) {b : Nat → Nat} : ∀ {i : Nat}, (∀ j, j < i → b j < 96) → (contB d b i).length = 128 * i
  | 0, _ => rfl
  | i + 1, h => by
    unfold contB
    rw [List.length_append, contB_len hd fun j hj => h j (by omega), blockOf_len hd (h i (by omega))]
    omega

theorem content_spec (d : List UInt8) (h : Hd) (hh : h.Ok d.length) (hd : d.length = 12288) (k s : Nat) (b : Nat → Nat) (hs : s ≤ 1536) (hb : ∀ i, i < 12 → b i < 96) :
    PureSpec Tryz.prog 108 [h.v d.length, .agg ⟨inoL k s b⟩] (fun w => By w h d) (RelB ((contB d b 12).take s)) := by
  have hcl : ∀ i, i ≤ 12 → (contB d b i).length = 128 * i := fun i hi => contB_len hd fun j hj => hb j (by omega)
  refine PureSpec.of_xc tabOk Tryz.func108 rfl (by decide) (n := Tryz.f108.ntmps - 2) rfl rfl fun w0 av => ?_
  conv => whnf
  intro b0
  conv => whnf
  refine XStop.loop tabOk (ι := Nat × Option Addr × Nat × List Value) ([5, 6] ++ List.range' 7 19) (fun x => x.1 ≤ 12 ∧ Own 1 (128 * x.1) x.2.1 x.2.2.1 x.2.2.2 ((contB d b x.1).map byteV))
    (fun x => [(5, .v (.slice x.2.1 (128 * x.1) x.2.2.1)), (6, .v (.int .i64 (x.1 : Int)))]) (fun _ => [inoL k s b]) (fun x => ⟨fun w => By w h d, orow x.2.1 x.2.2.2⟩)
    (fun x => 12 - x.1) (0, none, 0, []) ⟨Nat.zero_le _, Own.nil 1⟩ ?_ rfl (Ent.of_le ⟨by simp [orow], fun w hw => hw⟩) fun x hx => ?_
  · conv => whnf
    repeat (first | exact FLe.nil | refine FLe.any ?_ | refine FLe.cons ?_)
  obtain ⟨i, a, cap, C⟩ := x
  obtain ⟨hi, hO⟩ := hx
  dsimp only at hi hO ⊢
  conv => whnf
  refine XIf.split (fun hlt => ?_) (fun hlt => ?_)
  · conv => whnf
    have hlt' : i < 12 := by
      simp only [iLt_eq, decide_eq_true_eq] at hlt
      omega
    rw [blt_yes hlt']
    conv => whnf
    refine nthK_mk (x := intV (b i)) (by dsimp only; rw [Nat.mul_one, Nat.zero_add]; exact ino_get hlt') ?_
    conv => whnf
    refine XIf.split (fun hz => ?_) (fun hz => ?_)
    · have hz' : b i = 0 := by
        simp [iEq_eq] at hz
        omega
      have hB : blockOf d (b i) = List.replicate 128 0 := by
        unfold blockOf
        rw [if_pos hz']
      conv => whnf
      refine XVal.ent (F' := ⟨fun w => By w h d, [] ++ orow a C ++ []⟩) (Ent.of_le ⟨by simp, fun w hw => hw⟩) ?_
      refine XVal.appendMake tabOk (t := 23) (xt := 3) rfl rfl rfl rfl rfl rfl (m := 128) (r1 := []) (r2 := []) hO (by rw [zero_bytes]; exact byte_one) (by decide) (by omega) (by simp; omega) fun a' c' C' hO' => ?_
      rw [zero_bytes] at hO'
      conv => whnf
      refine ⟨(i + 1, a', c', C'), ⟨⟨hlt', ?_⟩, by dsimp only; omega⟩, ?_, ?_, ?_⟩
      · dsimp only
        unfold contB
        rw [hB, List.map_append]
        exact hO'
      · conv => whnf
        refine ⟨?_, rfl⟩
        repeat (first | exact FLe.nil | refine FLe.any ?_ | refine FLe.cons ?_ | refine FLe.eq (by rw [wrap_i64 (by omega)]; rfl) ?_)
      · conv => whnf
        exact ⟨⟨rfl, rfl⟩, trivial⟩
      · refine Ent.of_le ⟨by simp, fun w hw => hw⟩
    · have hz' : b i ≠ 0 := by
        simp [iEq_eq] at hz
        omega
      have hB : blockOf d (b i) = cut d (128 * b i) 128 := by
        unfold blockOf
        rw [if_neg hz']
      have hbi := hb i hlt'
      conv => whnf
      rw [blt_yes hlt']
      conv => whnf
      refine nthK_mk (x := intV (b i)) (by dsimp only; rw [Nat.mul_one, Nat.zero_add]; exact ino_get hlt') ?_
      conv => whnf
      refine XCall.val (block_spec h d.length (b i) hh (by omega) (by omega)) (fun w hw => trivial) (fun v D hv => ?_)
      subst hv
      conv => whnf
      refine XVal.ent (F' := ⟨fun w => By w h d, [] ++ orow a C ++ []⟩) (Ent.of_le ⟨by simp, fun w hw => hw⟩) ?_
      have hc := hh.cap
      refine XVal.append tabOk (t := 23) (xt := 23) rfl rfl rfl rfl rfl rfl (r1 := []) (r2 := []) (M := (blockOf d (b i)).map byteV) hO (.fact fun w hw => by rw [hB]; exact By.sub hw (by omega)) (by simp [blockOf_len hd hbi]) (fun v hv => byte_one v hv) (by omega) (by simp; omega) fun a' c' C' hO' => ?_
      conv => whnf
      refine ⟨(i + 1, a', c', C'), ⟨⟨hlt', ?_⟩, by dsimp only; omega⟩, ?_, ?_, ?_⟩
      · dsimp only
        unfold contB
        rw [List.map_append]
        exact hO'
      · conv => whnf
        refine ⟨?_, rfl⟩
        repeat (first | exact FLe.nil | refine FLe.any ?_ | refine FLe.cons ?_ | refine FLe.eq (by rw [wrap_i64 (by omega)]; rfl) ?_)
      · conv => whnf
        exact ⟨⟨rfl, rfl⟩, trivial⟩
      · refine Ent.of_le ⟨by simp, fun w hw => hw⟩
  · have hie : i = 12 := by
      simp only [iLt_eq, decide_eq_false_iff_not] at hlt
      omega
    subst hie
    obtain ⟨bb, rfl⟩ := own_some hO (by omega)
    have hfit := hO.fit
    conv => whnf
    refine XVal.of_read (XRead.subTo tabOk (t := 23) rfl rfl rfl (h := ⟨some ⟨bb, 0, none⟩, cap⟩) s rfl (by dsimp only; omega) ?_)
    conv => whnf
    have hsl : ((contB d b 12).take s).length = s := by
      rw [List.length_take, hcl 12 (Nat.le_refl _)]
      omega
    refine ⟨⟨fun w => By w ⟨some ⟨bb, 0, none⟩, cap⟩ ((contB d b 12).take s), []⟩, (Own.gives hO).trans (Ent.imp fun w hw => ?_), ⟨some ⟨bb, 0, none⟩, cap⟩, ?_, ?_, rfl⟩
    · have := RowAt.take hw.2 s
      unfold By
      rw [List.map_take]
      exact this
    · rw [hsl]
    · rw [hsl]
      exact ⟨fun h => (by cases h), by dsimp only; omega⟩

noncomputable def contentR (d : List UInt8) (n : Nat) : List UInt8 := if gete d n ≠ 0 then [] else (contB d (rb d n) 12).take (rs d n)

theorem form_size {d : List UInt8} {n : Nat} (h : formB d n = true) : rs d n ≤ 1536 := by
  unfold formB at h
  rw [Bool.and_eq_true] at h
  have h2 := h.2
  split at h2
  · rename_i hz
    rw [(inoZ_iff.1 hz).2.1]
    omega
  · rw [decide_eq_true_eq] at h2
    exact h2.2.1

theorem ok_blocks {d : List UInt8} (ho : Ok37 d) {n : Nat} (hn : n < 32) {i : Nat} (hi : i < 12) : rb d n i < 96 := by
  by_cases h0 : rb d n i = 0
  · omega
  · exact (form_blocks (ho.form n hn) i hi h0).2.1

theorem Content_spec (d : List UInt8) (h : Hd) (hh : h.Ok d.length) (hl : d.length ≤ 1000000) (n : Nat) :
    PureSpec Tryz.prog 105 [h.v d.length, .int .i64 (n : Int)] (fun w => By w h d) (RelB (contentR d n)) := by
  refine PureSpec.of_xc tabOk Tryz.func105 rfl (by decide) (n := Tryz.f105.ntmps - 2) rfl rfl fun w0 av => ?_
  conv => whnf
  obtain ⟨k, s, b, hL, hE⟩ := getL_ino d n
  refine XCall.val (get37_spec d h hh hl n) (fun w hw => hw) (fun v D hv => ?_)
  rw [hL] at hv
  generalize hg : gete d n = e at hv
  subst hv
  conv => whnf
  intro b0
  conv => whnf
  refine XIf.split (fun he => ?_) (fun he => ?_)
  · have he' : e ≠ 0 := by
      simp [iNe_eq] at he
      omega
    have : contentR d n = [] := by
      unfold contentR
      rw [hg, if_pos he']
    rw [this]
    conv => whnf
    exact ⟨⟨fun w => By w Hd.nil [], []⟩, Ent.bare fun w _ => By.nil w, Hd.nil, rfl, Hd.nil_ok, rfl⟩
  have he' : e = 0 := by
    simp [iNe_eq] at he
    omega
  subst he'
  obtain ⟨hd, hok, m, hm, hm32, hrk⟩ := gete_zero hg
  have hm : n = m := by omega
  subst hm
  obtain ⟨hk, hs, hb⟩ := hE hg
  rw [Int.toNat_natCast] at hk hs hb
  have hR : contentR d n = (contB d b 12).take s := by
    unfold contentR
    rw [hg, if_neg (by simp), hb, hs]
  rw [hR]
  conv => whnf
  refine XCall.pure (content_spec d h hh hd k s b (by rw [hs]; exact form_size (hok.form n hm32)) (fun i hi => by rw [hb]; exact ok_blocks hok hm32 hi)) (fun w hw => hw) (fun v D hv => ?_)
  obtain ⟨k3, rfl, hk3, rfl⟩ := hv
  conv => whnf
  exact ⟨_, Ent.of_le ⟨by simp [Fx.and], fun w hw => hw.2⟩, k3, rfl, hk3, rfl⟩

end Go.Proofs.YtfeoedkmndkbjaaGreatDoor
namespace Go.Proofs.YtfeoedkmndkbjaaGreatDoor
open Go Go.Sx
set_option maxRecDepth 100000
set_option maxHeartbeats 4000000
set_option linter.unusedVariables false
set_option linter.unusedSimpArgs false

theorem Ent.factB {D : World → Prop} {b : Nat} {l : List UInt8} {Z : List Value} : Ent ⟨D, [(b, Row.c (l.map byteV ++ Z))]⟩ ⟨fun w => D w ∧ RowAt w (some ⟨b, 0, none⟩) (l.map byteV), []⟩ := by
  refine Ent.share1.trans (Ent.imp fun w h => ⟨h.1, ?_⟩)
  have := h.2.take l.length
  have e : l.length = (l.map byteV).length := by simp
  rw [e, List.take_left] at this
  exact this

section
variable {P : Program} {tab : Sx.Tab} {w0 : World} {R : Nat → Nat → Prop} {av : Nat → Prop} {bs : List (Nat × Nat)} {cs : List (List Value)} {F : Fx}
theorem XRead.max {ts : Array TypeId} {ty : TypeId} {a b : Nat} {K : Value → Prop} (h : K (intV (max a b))) :
    XRead P w0 R av (Builtin.max_ ts ty #[intV a, intV b]) bs cs F K := by
  refine (XRead_iff _ _ _ _).2 ⟨_, fun w _ => ?_, h⟩
  have e : (intV (Max.max a b)) = .int .i64 (if (a : Int) < (b : Int) then (b : Int) else (a : Int)) := by
    unfold intV
    congr 1
    split <;> omega
  rw [e]
  rfl
end

section
variable {P : Program} {tab : Sx.Tab} {w0 : World} {R : Nat → Nat → Prop} {av : Nat → Prop} {bs : List (Nat × Nat)} {cs : List (List Value)} {F : Fx}
theorem XRead.rowIxAt (hT : TabOk P tab) {t : TypeId} {ti te : TI} {e : TypeId} (ht : Sx.look tab t = some ti) (hk : ti.k = .slice e) (he : Sx.look tab e = some te) (hsz : te.size = 1) {b o n c : Nat} {k : IntKind} {i : Int} {K : Value → Prop}
    (j : Nat) (hj : i = (j : Int)) (h1 : j < n) (h : K (.pointer (some ⟨b, o + j, none⟩))) : XRead P w0 R av (Instr.indexAt t (.slice (some ⟨b, o, none⟩) n c) (.int k i)) bs cs F K := by
  subst hj
  refine XRead.index hT ht hk he (by omega) (by omega) (fun h => by cases h) fun ad had => ?_
  cases had
  rw [hsz, Nat.mul_one, Int.toNat_natCast, Addr.add_none]
  exact h
end

/-- Blocks are taken for the first ones of an inode. -/
def wt (d : List UInt8) (b : Nat → Nat) : Nat → Option (List UInt8 × (Nat → Nat))
  | 0 => some (d, b)
  | i + 1 => match wt d b i with
    | none => none
    | some (o, b') => if b' i = 0 then (match freeB (bmp o) with
      | none => none
      | some x => some (takeD o x, fun j => if j = i then x else b' j)) else some (o, b')

theorem wt_none {d : List UInt8} {b : Nat → Nat} {i : Nat} (h : wt d b i = none) : ∀ {j : Nat}, i ≤ j → wt d b j = none
  | 0, hj => by
    have : i = 0 := by omega
    subst this
    exact h
  | j + 1, hj => by
    rcases Nat.lt_or_eq_of_le hj with h1 | h1
    · have := wt_none h (j := j) (by omega)
      unfold wt
      rw [this]
    · rw [← h1]
      exact h

/-- Bytes are laid into the blocks. -/
def wd (o : List UInt8) (b : Nat → Nat) (data : List UInt8) : Nat → List UInt8
  | 0 => o
  | k + 1 => bput (wd o b data k) (128 * b (k / 128) + k % 128) (byt data k)

theorem wd_len (o : List UInt8) (b : Nat → Nat) (data : List UInt8) : ∀ k, (wd o b data k).length = o.length
  | 0 => rfl
  | k + 1 => by
    unfold wd
    rw [bput_len, wd_len o b data k]

noncomputable def writeR (d : List UInt8) (n : Nat) (data : List UInt8) : List UInt8 × Nat :=
  if gete d n ≠ 0 then ([], gete d n) else if data.length = 0 then (d, 0) else if (if rk d n = 2 then 128 else 1536) < data.length then ([], 6)
  else match wt d (rb d n) ((data.length + 127) / 128) with
    | none => ([], 13)
    | some (o, b) => (putI (wd o b data data.length) n (rk d n) (max (rs d n) data.length) b, 0)

theorem write37W_spec (d : List UInt8) (h : Hd) (hh : h.Ok d.length) (hl : d.length ≤ 1000000) (n : Nat) (off : Int) (ho : off = 0) (data : List UInt8) (kd : Hd) (hkd : kd.Ok data.length) (hdl : data.length ≤ 1000000) :
    PureSpec Tryz.prog 36 [h.v d.length, .int .i64 (n : Int), .int .i64 off, kd.v data.length] (fun w => By w h d ∧ By w kd data) (RelDW (writeR d n data).1 (writeR d n data).2) := by
  refine PureSpec.of_xc tabOk Tryz.func36 rfl (by decide) (n := Tryz.f36.ntmps - 4) rfl rfl fun w0 av => ?_
  conv => whnf
  obtain ⟨k, s, b, hL, hE⟩ := getL_ino d n
  refine XCall.val (get37_spec d h hh hl n) (fun w hw => hw.1) (fun v D hv => ?_)
  rw [hL] at hv
  generalize hg : gete d n = e at hv
  subst hv
  conv => whnf
  intro b0
  conv => whnf
  refine XIf.split (fun he => ?_) (fun he => ?_)
  · have he' : e ≠ 0 := by
      simp [iNe_eq] at he
      omega
    have : writeR d n data = ([], e) := by
      unfold writeR
      rw [hg, if_pos he']
    rw [this]
    conv => whnf
    exact relDW_nil
  have he' : e = 0 := by
    simp [iNe_eq] at he
    omega
  obtain ⟨hd, hok, m, hm, hm32, hrk⟩ := gete_zero (hg.trans he')
  have hm : n = m := by omega
  subst hm
  obtain ⟨hk, hs, hb⟩ := hE (hg.trans he')
  rw [Int.toNat_natCast] at hk hs hb
  have hbl : ∀ i, i < 12 → b i < 96 := fun i hi => by rw [hb]; exact ok_blocks hok hm32 hi
  have hbm : ∀ i, b i ≤ 1000000 := fun i => by
    have := rb_lt d n i
    rw [hb]
    omega
  have hs2 : s ≤ 1536 := by rw [hs]; exact form_size (hok.form n hm32)
  have hk2 : k < 256 := by rw [hk]; exact rk_lt d n
  have hW : ∀ most : Nat, (if k = 2 then 128 else 1536) = most → writeR d n data = (if data.length = 0 then (d, 0) else if most < data.length then ([], 6)
      else match wt d b ((data.length + 127) / 128) with
        | none => ([], 13)
        | some (o, b') => (putI (wd o b' data data.length) n k (max s data.length) b', 0)) := by
    intro most hmm
    unfold writeR
    rw [hg, if_neg (by omega), ← hk, hmm, ← hs, ← hb]
  generalize hWR : writeR d n data = WR at *
  conv => whnf
  refine XIf.split (fun hk2 => ?_) (fun hk2 => ?_)
  all_goals
    obtain ⟨most, hmost⟩ : ∃ m : Nat, (if k = 2 then 128 else 1536) = m := ⟨_, rfl⟩
    have hW := hW most hmost
    conv => whnf
    refine XIf.no (by subst ho; simp [iLt_eq]) ?_
    conv => whnf
    refine XVal.build tabOk (t := 23) rfl rfl rfl [] rfl rfl (by simp) (by decide) fun b1 => ?_
    conv => whnf
    refine XVal.ent (F' := ⟨fun w => By w h d ∧ By w kd data, []⟩) (Ent.of_le ⟨by simp, fun w hw => hw⟩) ?_
    refine XVal.copyBytes tabOk (t := 23) (xt := 23) rfl rfl rfl rfl rfl rfl rfl rfl (l := d) (.fact fun w hw => hw.1) (by omega) (by omega) fun b2 c2 Z hc2 hZ => ?_
    conv => whnf
    refine XIf.split (fun h0 => ?_) (fun h0 => ?_)
    · have h0' : data.length = 0 := by
        simp [iEq_eq] at h0
        simp [h0]
      rw [if_pos h0'] at hW
      conv => whnf
      rw [hW]
      exact ⟨⟨fun _ => True, [(b2, Row.c (d.map byteV ++ Z))]⟩, Ent.of_le ⟨by simp, fun w hw => trivial⟩, .inl ⟨b2, c2, Z, rfl, hc2, rfl⟩⟩
    have h0' : data.length ≠ 0 := by
      simp [iEq_eq] at h0
      simp
      exact h0
    rw [if_neg h0'] at hW
    conv => whnf
    repeat (refine XSame.of ?_; conv => whnf)
    have hmv : (most = 128 ∧ iEq (k : Int) 2 = true) ∨ (most = 1536 ∧ iEq (k : Int) 2 = false) := by
      rw [show iEq (k : Int) 2 = decide (k = 2) from iEq_nat k 2]
      by_cases hq : k = 2
      · rw [if_pos hq] at hmost
        exact .inl ⟨hmost.symm, by simp [hq]⟩
      · rw [if_neg hq] at hmost
        exact .inr ⟨hmost.symm, by simp [hq]⟩
    rw [hk2] at hmv
    simp only [Bool.true_eq_false, Bool.false_eq_true, and_true, and_false, or_false, false_or] at hmv
    subst hmv
    refine XIf.split (fun hlim => ?_) (fun hlim => ?_)
    · have hlim' : ¬ data.length ≤ (if k = 2 then 128 else 1536) := by
        rw [hmost]
        subst ho
        simp [iGt_eq] at hlim
        rw [wrap_i64 (by omega)] at hlim
        omega
      rw [hmost] at hlim'
      rw [if_pos (by omega)] at hW
      conv => whnf
      rw [hW]
      exact relDW_nil
    have hlim' : data.length ≤ (if k = 2 then 128 else 1536) := by
      rw [hmost]
      subst ho
      simp [iGt_eq] at hlim
      rw [wrap_i64 (by omega)] at hlim
      omega
    rw [hmost] at hlim'
    rw [if_neg (by omega)] at hW
    have hlen : data.length ≤ 1536 := by omega
    have e0 : IntKind.i64.wrap (Int.tdiv off (Int.ofNat 128)) = ((0 : Nat) : Int) := by
      subst ho
      rfl
    conv => whnf
    rw [e0]
    conv => whnf
    have hml : (data.length + 127) / 128 ≤ 12 := by omega
    have e1 : ∀ i : Nat, i ≤ 12 → IntKind.i64.wrap ((i : Int) * 128) = ((i * 128 : Nat) : Int) := fun i hi => by
      rw [wrap_i64 (by omega)]
      omega
    have e2 : IntKind.i64.wrap (off + (data.length : Int)) = (data.length : Int) := by
      subst ho
      rw [wrap_i64 (by omega)]
      omega
    generalize hwt : wt d b = WT at *
    have hwt0 : WT 0 = some (d, b) := by
      rw [← hwt]
      rfl
    have hwtS : ∀ i, WT (i + 1) = match WT i with
      | none => none
      | some (o, b') => if b' i = 0 then (match freeB (bmp o) with
        | none => none
        | some x => some (takeD o x, fun j => if j = i then x else b' j)) else some (o, b') := fun i => by
      rw [← hwt]
      rfl
    have hwtN : ∀ i j, WT i = none → i ≤ j → WT j = none := fun i j h1 h2 => by
      rw [← hwt] at h1 ⊢
      exact wt_none h1 h2
    refine XStop.loop tabOk (ι := Nat × List UInt8 × (Nat → Nat) × Nat × Nat × List Value) ([11, 13, 14] ++ List.range' 51 26)
      (fun x => x.1 ≤ (data.length + 127) / 128 ∧ WT x.1 = some (x.2.1, x.2.2.1) ∧ x.2.1.length = 12288 ∧ 12288 ≤ x.2.2.2.2.1 ∧ (∀ j, j < 12 → x.2.2.1 j < 96) ∧ ∀ j, x.2.2.1 j ≤ 1000000)
      (fun x => [(13, .v (.slice (some ⟨x.2.2.2.1, 0, none⟩) x.2.1.length x.2.2.2.2.1)), (14, .v (.int .i64 (x.1 : Int)))]) (fun x => [inoL k s x.2.2.1]) (fun x => ⟨fun w => By w kd data, [(x.2.2.2.1, Row.c (x.2.1.map byteV ++ x.2.2.2.2.2))]⟩)
      (fun x => 12 - x.1) (0, d, b, b2, c2, Z) ⟨Nat.zero_le _, hwt0, hd, by dsimp only; omega, hbl, hbm⟩ ?_ rfl (Ent.of_le ⟨by simp, fun w hw => hw.2⟩) fun x hx => ?_
    · conv => whnf
      repeat (first | exact FLe.nil | refine FLe.any ?_ | refine FLe.cons ?_)
    obtain ⟨i, o, b', bb, cap, Z'⟩ := x
    obtain ⟨hi, hwi, hol, hcap, hbl', hbm'⟩ := hx
    dsimp only at hi hwi hol hcap hbl' hbm' ⊢
    conv => whnf
    refine XIf.split (fun hlt => ?_) (fun hlt => ?_)
    · have hlt' : i * 128 < data.length := by
        rw [e1 i (by omega), e2] at hlt
        simp only [iLt_eq, decide_eq_true_eq] at hlt
        omega
      have hi12 : i < 12 := by omega
      conv => whnf
      rw [blt_yes hi12]
      conv => whnf
      refine nthK_mk (x := intV (b' i)) (by dsimp only; rw [Nat.mul_one, Nat.zero_add]; exact ino_get hi12) ?_
      conv => whnf
      have hS := hwtS i
      rw [hwi] at hS
      dsimp only at hS
      refine XIf.split (fun hz => ?_) (fun hz => ?_)
      · have hz' : b' i = 0 := by
          simp [iEq_eq] at hz
          omega
        rw [if_pos hz'] at hS
        conv => whnf
        refine XCall.ent (F' := ⟨fun w => By w kd data ∧ RowAt w (some ⟨bb, 0, none⟩) (o.map byteV), []⟩) Ent.factB ?_
        cases hf : freeB (bmp o) with
        | none =>
          obtain ⟨e3, he3⟩ : ∃ e : Nat, e = 13 := ⟨_, rfl⟩
          refine XCall.pure (take_none o ⟨some ⟨bb, 0, none⟩, cap⟩ ⟨fun h => (by cases h), by dsimp only; omega⟩ hol hf e3 he3) (fun w hw => hw.2) (fun v D hv => ?_)
          obtain ⟨k3, rfl, hk3, rfl⟩ := hv
          conv => whnf
          rw [blt_yes hi12]
          conv => whnf
          refine overK_mk (by simp [inoL]; omega) ?_
          conv => whnf
          refine XIf.yes (by subst he3; simp [iNe_eq]) ?_
          conv => whnf
          rw [hf] at hS
          have hWn := hwtN (i + 1) ((data.length + 127) / 128) hS (by omega)
          rw [hWn] at hW
          rw [hW]
          subst he3
          exact relDW_nil
        | some x =>
          obtain ⟨hx1, hx2⟩ := freeB_lt hf
          obtain ⟨e3, he3⟩ : ∃ e : Nat, e = 0 := ⟨_, rfl⟩
          refine XCall.pure (take_someO o ⟨some ⟨bb, 0, none⟩, cap⟩ ⟨fun h => (by cases h), by dsimp only; omega⟩ hol x hf e3 he3) (fun w hw => hw.2) (fun v D hv => ?_)
          obtain ⟨b3, c3, Z3, rfl, hc3, rfl⟩ := hv
          have htl := takeD_len hol hx2
          conv => whnf
          rw [blt_yes hi12]
          conv => whnf
          refine overK_mk (by simp [inoL]; omega) ?_
          conv => whnf
          refine XIf.no (by subst he3; simp [iNe_eq]) ?_
          conv => whnf
          rw [hf] at hS
          dsimp only at hS
          refine ⟨(i + 1, takeD o x, fun j => if j = i then x else b' j, b3, c3, Z3), ⟨⟨by dsimp only; omega, hS, htl, by dsimp only; omega, fun j hj => ?_, fun j => ?_⟩, by dsimp only; omega⟩, ?_, ?_, ?_⟩
          · dsimp only
            split
            · exact hx2
            · exact hbl' j hj
          · dsimp only
            split
            · omega
            · exact hbm' j
          · conv => whnf
            refine ⟨?_, rfl⟩
            repeat (first | exact FLe.nil | refine FLe.any ?_ | refine FLe.cons ?_ | refine FLe.eq (by rw [wrap_i64 (by omega)]; rfl) ?_)
          · conv => whnf
            refine ⟨⟨rfl, ?_⟩, trivial⟩
            dsimp only
            rw [Nat.mul_one, Nat.zero_add]
            exact laid_ino hi12 x
          · refine Ent.of_le ⟨by simp [Fx.and], fun w hw => hw.1.1⟩
      · have hz' : b' i ≠ 0 := by
          simp [iEq_eq] at hz
          omega
        rw [if_neg hz'] at hS
        conv => whnf
        refine ⟨(i + 1, o, b', bb, cap, Z'), ⟨⟨by dsimp only; omega, hS, hol, hcap, hbl', hbm'⟩, by dsimp only; omega⟩, ?_, ?_, Ent.refl _⟩
        · conv => whnf
          refine ⟨?_, rfl⟩
          repeat (first | exact FLe.nil | refine FLe.any ?_ | refine FLe.cons ?_ | refine FLe.eq (by rw [wrap_i64 (by omega)]; rfl) ?_)
        · conv => whnf
          exact ⟨⟨rfl, rfl⟩, trivial⟩
    · have hie : i = (data.length + 127) / 128 := by
        rw [e1 i (by omega), e2] at hlt
        simp only [iLt_eq, decide_eq_false_iff_not] at hlt
        omega
      rw [← hie, hwi] at hW
      dsimp only at hW
      conv => whnf
      have hwl := wd_len o b' data
      refine XStop.loop tabOk (ι := Nat) ([15, 16] ++ List.range' 77 25) (fun x => x ≤ data.length)
        (fun x => [(15, .v (.int .i64 (x : Int)))]) (fun x => [inoL k s b']) (fun x => ⟨fun w => By w kd data, [(bb, Row.c ((wd o b' data x).map byteV ++ Z'))]⟩)
        (fun x => data.length - x) 0 (Nat.zero_le _) ?_ rfl (Ent.refl _) fun q hq => ?_
      · conv => whnf
        repeat (first | exact FLe.nil | refine FLe.any ?_ | refine FLe.cons ?_)
      conv => whnf
      refine XIf.split (fun hlt2 => ?_) (fun hlt2 => ?_)
      · have hlt2' : q < data.length := by
          simp only [iLt_eq, decide_eq_true_eq] at hlt2
          omega
        have hq12 : q / 128 < 12 := by omega
        have hbq := hbl' _ hq12
        have e3 : IntKind.i64.wrap (off + (q : Int)) = (q : Int) := by
          subst ho
          rw [wrap_i64 (by omega)]
          omega
        have e4 : IntKind.i64.wrap (Int.tdiv (q : Int) (Int.ofNat 128)) = ((q / 128 : Nat) : Int) := wdiv q 128 (by omega)
        have e5 : Int.tmod (q : Int) (Int.ofNat 128) = ((q % 128 : Nat) : Int) := tmod_nat q 128
        have hws : wd o b' data (q + 1) = bput (wd o b' data q) (128 * b' (q / 128) + q % 128) (byt data q) := rfl
        have hwlq := hwl q
        conv => whnf
        rw [e3, e4]
        generalize wd o b' data q = wq at *
        refine XStop.draw tabOk mixed rfl rfl ?_
        conv => whnf
        repeat' (first
          | (refine And.intro ?_ ?_ <;> conv => whnf)
          | (refine XHeld.same rfl ?_; conv => whnf)
          | (refine XHeld.row rfl ?_; conv => whnf)
          | (refine XHeld.call rfl ?_; conv => whnf)
          | (refine XKeep.of ?_; conv => whnf)
          | (refine XSame.of ?_; conv => whnf)
          | (rw [blt_yes hq12]; conv => whnf)
          | (refine nthK_mk (x := intV (b' (q / 128))) (by dsimp only; rw [Nat.mul_one, Nat.zero_add]; exact ino_get hq12) ?_; conv => whnf)
          | (refine XCall.val (block_spec ⟨some ⟨bb, 0, none⟩, cap⟩ o.length (b' (q / 128)) ⟨fun h => (by cases h), by dsimp only; omega⟩ (by omega) (by omega)) (fun w hw => trivial) (fun v D hv => ?_); rw [sub_row (by omega)] at hv; subst hv; conv => whnf)
          | (refine XRead.byteAt tabOk (t := 23) rfl rfl rfl rfl q rfl hlt2' hkd fun ad had => ?_; conv => whnf)
          | (refine XRead.byteLd' tabOk (t := 5) rfl rfl had (.fact fun w h => h) rfl hlt2' ?_; conv => whnf)
          | (refine XRead.rowIxAt tabOk (t := 23) rfl rfl rfl rfl (q % 128) (by rw [e3]; exact e5) (Nat.mod_lt _ (by decide)) ?_; conv => whnf)
          | (refine XUnit.storeByte tabOk (t := 5) rfl rfl (r1 := []) (r2 := []) (l := wq) (Z := Z') (byt data q) rfl rfl (byt_lt _ _) (by omega) ?_; conv => whnf)
          | (refine XHeld.mk ?_ ?_; (focus (first | exact Ent.refl _ | exact Ent.left _ _ | exact Ent.of_le ⟨List.sublist_append_left _ _, fun w h => h⟩ | exact Ent.of_le ⟨List.Sublist.refl _, fun w h => h.1⟩)); conv => whnf))
        all_goals
          refine ⟨q + 1, ⟨hlt2', by dsimp only; omega⟩, ?_, ?_, ?_⟩
          · conv => whnf
            refine ⟨?_, rfl⟩
            repeat (first | exact FLe.nil | refine FLe.any ?_ | refine FLe.cons ?_ | refine FLe.eq (by rw [wrap_i64 (by omega)]; rfl) ?_)
          · conv => whnf
            exact ⟨⟨rfl, rfl⟩, trivial⟩
          · refine Ent.of_le ⟨by simp only [hws]; exact List.Sublist.refl _, fun w hw => hw⟩
      · have hqe : q = data.length := by
          simp only [iLt_eq, decide_eq_false_iff_not] at hlt2
          omega
        subst hqe
        have hwq := hwl data.length
        have hpt := put37O_spec (wd o b' data data.length) ⟨some ⟨bb, 0, none⟩, cap⟩ n k (max s data.length) b' ⟨fun h => (by cases h), by dsimp only; omega⟩ (by omega) hm32 (by omega) (by omega) hbm'
        have hpl := putI_len (hwq.trans hol) hm32 k (max s data.length) b'
        rw [hW]
        generalize putI (wd o b' data data.length) n k (max s data.length) b' = dd at *
        rw [hwq] at hpt
        generalize wd o b' data data.length = wq at *
        conv => whnf
        rw [e2]
        refine XVal.of_read (XRead.max (a := s) (b := data.length) ?_)
        conv => whnf
        refine XCall.ent (F' := ⟨fun w => By w kd data ∧ RowAt w (some ⟨bb, 0, none⟩) (wq.map byteV), []⟩) Ent.factB ?_
        refine XCall.pure hpt (fun w hw => hw.2) (fun v D hv => ?_)
        obtain ⟨b3, c3, Z3, rfl, hc3, rfl⟩ := hv
        conv => whnf
        exact ⟨⟨fun _ => True, [(b3, Row.c (dd.map byteV ++ Z3))]⟩, Ent.of_le ⟨by simp [Fx.and], fun w hw => trivial⟩, .inl ⟨b3, c3, Z3, rfl, hc3, rfl⟩⟩

theorem write37_spec (d : List UInt8) (h : Hd) (hh : h.Ok d.length) (hl : d.length ≤ 1000000) (n : Nat) (off : Int) (ho : off = 0) (data : List UInt8) (kd : Hd) (hkd : kd.Ok data.length) (hdl : data.length ≤ 1000000) :
    PureSpec Tryz.prog 36 [h.v d.length, .int .i64 (n : Int), .int .i64 off, kd.v data.length] (fun w => By w h d ∧ By w kd data) (RelDE (writeR d n data).1 (writeR d n data).2) := relDW_down (write37W_spec d h hh hl n off ho data kd hkd hdl)

end Go.Proofs.YtfeoedkmndkbjaaGreatDoor
namespace Go.Proofs
open Go.Shelf
def Tryz.lays143_ren : Go.Shelf.Ren := ⟨fun | 143 => 167 | 219 => 189 | 217 => 200 | 225 => 201 | 224 => 202 | 267 => 203 | 266 => 206 | 314 => 207 | n => n, fun | 9 => 9 | 3 => 3 | 4 => 4 | 5 => 5 | 46 => 190 | 146 => 250 | 51 => 230 | n => n, fun | 1 => 0 | n => n⟩
theorem Tryz.lays143 : Go.Proofs.Lays.n143 Tryz.prog Tryz.lays143_ren := {
  mixed := by kernel_rfl
  f143 := Tryz.func167.trans (congrArg some (by kernel_rfl))
  f217 := Tryz.func200.trans (congrArg some (by kernel_rfl))
  f219 := Tryz.func189.trans (congrArg some (by kernel_rfl))
  f224 := Tryz.func202.trans (congrArg some (by kernel_rfl))
  f225 := Tryz.func201.trans (congrArg some (by kernel_rfl))
  f266 := Tryz.func206.trans (congrArg some (by kernel_rfl))
  f267 := Tryz.func203.trans (congrArg some (by kernel_rfl))
  f314 := Tryz.func207.trans (congrArg some (by kernel_rfl))
  t3 := Tryz.underlying3
  a3 := Tryz.isAgg3
  z3 := Tryz.sizeOf3
  v3 := Tryz.zeroValue3
  t4 := Tryz.underlying4
  a4 := Tryz.isAgg4
  z4 := Tryz.sizeOf4
  v4 := Tryz.zeroValue4
  t5 := Tryz.underlying5
  a5 := Tryz.isAgg5
  z5 := Tryz.sizeOf5
  v5 := Tryz.zeroValue5
  t9 := Tryz.underlying9
  a9 := Tryz.isAgg9
  z9 := Tryz.sizeOf9
  v9 := Tryz.zeroValue9
  t46 := Tryz.underlying190
  a46 := Tryz.isAgg190
  z46 := Tryz.sizeOf190
  v46 := Tryz.zeroValue190
  t51 := Tryz.underlying230
  a51 := Tryz.isAgg230
  z51 := Tryz.sizeOf230
  v51 := Tryz.zeroValue230
  t146 := Tryz.underlying250
  a146 := Tryz.isAgg250
  z146 := Tryz.sizeOf250
  v146 := Tryz.zeroValue250
  g1 := by kernel_rfl }
open Go.RowKit Go.Lib in
/-- strings.Index: "Index returns the index of the first instance of substr in s, or -1 if substr is not present in s.": AT A substr OF ONE BYTE c: IT RETURNS 'Lib.indexByte s c'; the world is as it was. (LAID: no walk: one application.) -/
theorem Tryz.strings_Index_one (s : ByteArray) (c : UInt8) (w : World) :
    Calls Tryz.prog 167 #[.string s, .string ⟨#[c]⟩] w fun e w' => e = .returned (.int .i64 (Lib.indexByte s.data.toList c)) ∧ w' = w := Any.strings_Index_one Tryz.lays143 s c w
def Tryz.lays138_ren : Go.Shelf.Ren := ⟨fun | 138 => 166 | 195 => 186 | 218 => 188 | 143 => 167 | 219 => 189 | 217 => 200 | 225 => 201 | 224 => 202 | 267 => 203 | 266 => 206 | 314 => 207 | n => n, fun | 9 => 9 | 3 => 3 | 4 => 4 | 5 => 5 | 0 => 0 | 46 => 190 | 146 => 250 | 51 => 230 | n => n, fun | 1 => 0 | n => n⟩
theorem Tryz.lays138 : Go.Proofs.Lays.n138 Tryz.prog Tryz.lays138_ren := {
  mixed := by kernel_rfl
  f138 := Tryz.func166.trans (congrArg some (by kernel_rfl))
  f143 := Tryz.func167.trans (congrArg some (by kernel_rfl))
  f195 := Tryz.func186.trans (congrArg some (by kernel_rfl))
  f217 := Tryz.func200.trans (congrArg some (by kernel_rfl))
  f218 := Tryz.func188.trans (congrArg some (by kernel_rfl))
  f219 := Tryz.func189.trans (congrArg some (by kernel_rfl))
  f224 := Tryz.func202.trans (congrArg some (by kernel_rfl))
  f225 := Tryz.func201.trans (congrArg some (by kernel_rfl))
  f266 := Tryz.func206.trans (congrArg some (by kernel_rfl))
  f267 := Tryz.func203.trans (congrArg some (by kernel_rfl))
  f314 := Tryz.func207.trans (congrArg some (by kernel_rfl))
  t0 := Tryz.underlying0
  a0 := Tryz.isAgg0
  z0 := Tryz.sizeOf0
  v0 := Tryz.zeroValue0
  t3 := Tryz.underlying3
  a3 := Tryz.isAgg3
  z3 := Tryz.sizeOf3
  v3 := Tryz.zeroValue3
  t4 := Tryz.underlying4
  a4 := Tryz.isAgg4
  z4 := Tryz.sizeOf4
  v4 := Tryz.zeroValue4
  t5 := Tryz.underlying5
  a5 := Tryz.isAgg5
  z5 := Tryz.sizeOf5
  v5 := Tryz.zeroValue5
  t9 := Tryz.underlying9
  a9 := Tryz.isAgg9
  z9 := Tryz.sizeOf9
  v9 := Tryz.zeroValue9
  t46 := Tryz.underlying190
  a46 := Tryz.isAgg190
  z46 := Tryz.sizeOf190
  v46 := Tryz.zeroValue190
  t51 := Tryz.underlying230
  a51 := Tryz.isAgg230
  z51 := Tryz.sizeOf230
  v51 := Tryz.zeroValue230
  t146 := Tryz.underlying250
  a146 := Tryz.isAgg250
  z146 := Tryz.sizeOf250
  v146 := Tryz.zeroValue250
  g1 := by kernel_rfl }
open Go.RowKit Go.Lib in
/-- strings.Count AT A substr OF ONE BYTE ('hp'): "Count counts the number of non-overlapping instances of substr in s.": IT RETURNS 'Lib.countByte s (that byte)'; the world is as it was. ✋ NO CONTRACT HERE YET at an empty substr (utf8.RuneCountInString) or at a longer one (a loop over strings.Index). (LAID: no walk: one application.) -/
theorem Tryz.strings_Count_one (s : ByteArray) (c : UInt8) (w : World) :
    Calls Tryz.prog 166 #[.string s, .string ⟨#[c]⟩] w fun e w' => e = .returned (.int .i64 (Lib.countByte s.data.toList c)) ∧ w' = w := Any.strings_Count_one Tryz.lays138 s c w
end Go.Proofs
namespace Go.Proofs.YtfeoedkmndkbjaaGreatDoor
open Go Go.Sx
set_option maxRecDepth 100000
set_option maxHeartbeats 4000000
set_option linter.unusedVariables false
set_option linter.unusedSimpArgs false

/-- A byte of a name. -/
def okc (c : UInt8) : Bool := (decide (97 ≤ c.toNat) && decide (c.toNat ≤ 122)) || ((decide (48 ≤ c.toNat) && decide (c.toNat ≤ 57)) || (c.toNat == 46 || (c.toNat == 45 || c.toNat == 95)))

def vname (s : List UInt8) : Bool := s.all okc && (decide (1 ≤ s.length) && decide (s.length ≤ 14))

theorem okc_iff {c : UInt8} : okc c = true ↔ ((97 ≤ c.toNat ∧ c.toNat ≤ 122) ∨ (48 ≤ c.toNat ∧ c.toNat ≤ 57) ∨ c.toNat = 46 ∨ c.toNat = 45 ∨ c.toNat = 95) := by
  simp [okc, Bool.or_eq_true, Bool.and_eq_true]

theorem vname_bad {s : List UInt8} {i : Nat} (hi : i < s.length) (h : ¬ okc s[i] = true) : vname s = false := by
  unfold vname
  have : s.all okc = false := by
    rw [List.all_eq_false]
    exact ⟨_, List.getElem_mem hi, h⟩
  rw [this]
  rfl

theorem all_next {s : List UInt8} {i : Nat} (hi : i < s.length) (h : (s.take i).all okc = true) (hk : okc s[i] = true) : (s.take (i + 1)).all okc = true := by
  rw [List.take_succ_eq_append_getElem hi, List.all_append, h]
  simp [hk]

theorem valid_spec (s : List UInt8) (hs : s.length ≤ 1000000) : PureSpec Tryz.prog 119 [strV s] (fun w => True) (fun v F => v = .bool (vname s)) := by
  refine PureSpec.of_xc tabOk Tryz.func119 rfl (by decide) (n := Tryz.f119.ntmps - 1) rfl rfl fun w0 av => ?_
  conv => whnf
  refine XStop.loop tabOk (ι := Nat) ([3, 4] ++ List.range' 7 33) (fun x => x ≤ s.length ∧ (s.take x).all okc = true)
    (fun x => [(7, .v (.int .i64 (x : Int)))]) (fun _ => []) (fun _ => ⟨fun w => True, []⟩)
    (fun x => s.length - x) 0 ⟨Nat.zero_le _, rfl⟩ ?_ rfl (Ent.refl _) fun i hi => ?_
  · conv => whnf
    repeat (first | exact FLe.nil | refine FLe.any ?_ | refine FLe.cons ?_)
  obtain ⟨hi, hall⟩ := hi
  conv => whnf
  refine XIf.split (fun hlt => ?_) (fun hlt => ?_)
  · conv => whnf
    have hlt' : i < s.length := by
      have : (i : Int) < s.length := by simpa [iLt_eq, mk_size] using hlt
      omega
    refine XVal.of_read (XRead.strIndex tabOk (t := 9) rfl rfl i rfl hlt' ?_)
    conv => whnf
    generalize hc : s[i] = c
    repeat' (first
      | (rw [show iLt (c.toNat : Int) 97 = iLt (c.toNat : Int) 97 from rfl]; cases ht0 : iLt (c.toNat : Int) 97 <;> conv => whnf)
      | (rw [show iGt (c.toNat : Int) 122 = iGt (c.toNat : Int) 122 from rfl]; cases ht1 : iGt (c.toNat : Int) 122 <;> conv => whnf)
      | (rw [show iLt (c.toNat : Int) 48 = iLt (c.toNat : Int) 48 from rfl]; cases ht2 : iLt (c.toNat : Int) 48 <;> conv => whnf)
      | (rw [show iGt (c.toNat : Int) 57 = iGt (c.toNat : Int) 57 from rfl]; cases ht3 : iGt (c.toNat : Int) 57 <;> conv => whnf)
      | (rw [show iNe (c.toNat : Int) 46 = iNe (c.toNat : Int) 46 from rfl]; cases ht4 : iNe (c.toNat : Int) 46 <;> conv => whnf)
      | (rw [show iNe (c.toNat : Int) 45 = iNe (c.toNat : Int) 45 from rfl]; cases ht5 : iNe (c.toNat : Int) 45 <;> conv => whnf)
      | (rw [show iNe (c.toNat : Int) 95 = iNe (c.toNat : Int) 95 from rfl]; cases ht6 : iNe (c.toNat : Int) 95 <;> conv => whnf)
      | (refine XSame.of ?_; conv => whnf)
      | (refine XIf.yes rfl ?_; conv => whnf)
      | (refine XIf.no rfl ?_; conv => whnf))
    all_goals first
      | (have hok : okc s[i] = true := (by
           rw [hc, okc_iff]
           simp only [iLt_eq, iGt_eq, iNe_eq, decide_eq_true_eq, decide_eq_false_iff_not, bne_iff_ne, ne_eq, bne_eq_false_iff_eq] at *
           omega)
         refine ⟨i + 1, ⟨⟨hlt', all_next hlt' hall hok⟩, by dsimp only; omega⟩, ?_, ?_, Ent.refl _⟩
         · conv => whnf
           refine ⟨?_, rfl⟩
           repeat (first | exact FLe.nil | refine FLe.any ?_ | refine FLe.cons ?_ | refine FLe.eq (by rw [wrap_i64 (by omega)]; rfl) ?_)
         · conv => whnf
           exact trivial)
      | (have hok : ¬ okc s[i] = true := (by
           rw [hc, okc_iff]
           simp only [iLt_eq, iGt_eq, iNe_eq, decide_eq_true_eq, decide_eq_false_iff_not, bne_iff_ne, ne_eq, bne_eq_false_iff_eq] at *
           omega)
         exact ⟨_, Ent.refl _, by rw [vname_bad hlt' hok]⟩)
      | (exfalso
         simp only [iLt_eq, iGt_eq, iNe_eq, decide_eq_true_eq, decide_eq_false_iff_not, bne_iff_ne, ne_eq, bne_eq_false_iff_eq] at *
         omega)
  · conv => whnf
    have hie : i = s.length := by
      have : ¬ i < s.length := by simpa [iLt_eq, mk_size] using hlt
      omega
    subst hie
    repeat' (first
      | (refine XSame.of ?_; conv => whnf))
    refine ⟨_, Ent.refl _, ?_⟩
    rw [List.take_length] at hall
    simp only [mk_size, iGe_eq, iLe_eq, vname, hall, Bool.true_and]
    congr 1
    rw [Bool.eq_iff_iff]
    simp
    try omega

theorem validR_spec (s : List UInt8) (hs : s.length ≤ 1000000) : PureSpec Tryz.prog 126 [strV s] (fun w => True) (fun v F => v = .bool (vname s)) := by
  refine PureSpec.of_xc tabOk Tryz.func126 rfl (by decide) (n := Tryz.f126.ntmps - 1) rfl rfl fun w0 av => ?_
  conv => whnf
  refine XStop.loop tabOk (ι := Nat) ([3, 4] ++ List.range' 5 36) (fun x => x ≤ s.length ∧ (s.take x).all okc = true)
    (fun x => [(3, .v (.int .i64 (x : Int)))]) (fun _ => []) (fun _ => ⟨fun w => True, []⟩)
    (fun x => s.length - x) 0 ⟨Nat.zero_le _, rfl⟩ ?_ rfl (Ent.refl _) fun i hi => ?_
  · conv => whnf
    repeat (first | exact FLe.nil | refine FLe.any ?_ | refine FLe.cons ?_)
  obtain ⟨hi, hall⟩ := hi
  conv => whnf
  refine XIf.split (fun hlt => ?_) (fun hlt => ?_)
  · conv => whnf
    have hlt' : i < s.length := by
      have : (i : Int) < s.length := by simpa [iLt_eq, mk_size] using hlt
      omega
    refine XVal.of_read (XRead.strIndex tabOk (t := 9) rfl rfl i rfl hlt' ?_)
    conv => whnf
    generalize hc : s[i] = c
    repeat' (first
      | (rw [show iGe (c.toNat : Int) 97 = iGe (c.toNat : Int) 97 from rfl]; cases ht0 : iGe (c.toNat : Int) 97 <;> conv => whnf)
      | (rw [show iLe (c.toNat : Int) 122 = iLe (c.toNat : Int) 122 from rfl]; cases ht1 : iLe (c.toNat : Int) 122 <;> conv => whnf)
      | (rw [show iGe (c.toNat : Int) 48 = iGe (c.toNat : Int) 48 from rfl]; cases ht2 : iGe (c.toNat : Int) 48 <;> conv => whnf)
      | (rw [show iLe (c.toNat : Int) 57 = iLe (c.toNat : Int) 57 from rfl]; cases ht3 : iLe (c.toNat : Int) 57 <;> conv => whnf)
      | (rw [show iEq (c.toNat : Int) 46 = iEq (c.toNat : Int) 46 from rfl]; cases ht4 : iEq (c.toNat : Int) 46 <;> conv => whnf)
      | (rw [show iEq (c.toNat : Int) 45 = iEq (c.toNat : Int) 45 from rfl]; cases ht5 : iEq (c.toNat : Int) 45 <;> conv => whnf)
      | (rw [show iEq (c.toNat : Int) 95 = iEq (c.toNat : Int) 95 from rfl]; cases ht6 : iEq (c.toNat : Int) 95 <;> conv => whnf)
      | (refine XSame.of ?_; conv => whnf)
      | (refine XIf.yes rfl ?_; conv => whnf)
      | (refine XIf.no rfl ?_; conv => whnf))
    all_goals first
      | (have hok : okc s[i] = true := (by
           rw [hc, okc_iff]
           simp only [iLe_eq, iGe_eq, iEq_eq, decide_eq_true_eq, decide_eq_false_iff_not, beq_iff_eq, beq_eq_false_iff_ne, ne_eq] at *
           omega)
         refine ⟨i + 1, ⟨⟨hlt', all_next hlt' hall hok⟩, by dsimp only; omega⟩, ?_, ?_, Ent.refl _⟩
         · conv => whnf
           refine ⟨?_, rfl⟩
           repeat (first | exact FLe.nil | refine FLe.any ?_ | refine FLe.cons ?_ | refine FLe.eq (by rw [wrap_i64 (by omega)]; rfl) ?_)
         · conv => whnf
           exact trivial)
      | (have hok : ¬ okc s[i] = true := (by
           rw [hc, okc_iff]
           simp only [iLe_eq, iGe_eq, iEq_eq, decide_eq_true_eq, decide_eq_false_iff_not, beq_iff_eq, beq_eq_false_iff_ne, ne_eq] at *
           omega)
         exact ⟨_, Ent.refl _, by rw [vname_bad hlt' hok]⟩)
      | (exfalso
         simp only [iLe_eq, iGe_eq, iEq_eq, decide_eq_true_eq, decide_eq_false_iff_not, beq_iff_eq, beq_eq_false_iff_ne, ne_eq] at *
         omega)
  · conv => whnf
    have hie : i = s.length := by
      have : ¬ i < s.length := by simpa [iLt_eq, mk_size] using hlt
      omega
    subst hie
    repeat' (first
      | (refine XSame.of ?_; conv => whnf))
    refine ⟨_, Ent.refl _, ?_⟩
    rw [List.take_length] at hall
    simp only [mk_size, iGe_eq, iLe_eq, vname, hall, Bool.true_and]
    congr 1
    rw [Bool.eq_iff_iff]
    simp
    try omega

end Go.Proofs.YtfeoedkmndkbjaaGreatDoor
namespace Go.Proofs.YtfeoedkmndkbjaaGreatDoor
open Go Go.Sx
set_option maxRecDepth 100000
set_option linter.unusedVariables false
set_option linter.unusedSimpArgs false

/-- Where the first '/' stands. -/
def slash (s : List UInt8) : Int := match s.findIdx? (· == 47) with
  | some n => (n : Int)
  | none => -1

theorem spec_of_calls {P : Program} {f : FuncId} {fn : Func} (hfn : P.funcs[f]? = some fn) (hb : fn.body.isSome = true) (hnm : (fn.name == "runtime.NumGoroutine") = false) {vs : List Value} {v : Value}
    (h : ∀ w, Calls P f vs.toArray w fun e w' => e = .returned v ∧ w' = w) : PureSpec P f vs (fun w => True) (fun u F => u = v) := by
  unfold PureSpec
  refine ⟨⟨fn, hfn, hb, hnm⟩, fun av w hav hpre => (h w).mono ?_⟩
  rintro e w' ⟨rfl, rfl⟩
  exact ⟨v, ⟨fun _ => True, []⟩, rfl, KeepX.refl _ _, ⟨by simp, by simp, .pure trivial⟩, rfl⟩

theorem indexByte_slash : ∀ s : List UInt8, Go.Lib.indexByte s 47 = slash s
  | [] => rfl
  | x :: s => by
    have ih := indexByte_slash s
    unfold Go.Lib.indexByte
    rw [ih]
    unfold slash
    rw [List.findIdx?_cons]
    by_cases h : (x == 47) = true
    · rw [if_pos h, if_pos h]
      rfl
    · rw [if_neg h, if_neg h]
      cases s.findIdx? (· == 47) with
      | none => rfl
      | some n =>
        simp only [Option.map_some]
        have hn : ¬ (((n : Int) == -1) = true) := by simp
        rw [if_neg hn]
        rfl

theorem count_spec (s : List UInt8) : PureSpec Tryz.prog 166 [strV s, strV [47]] (fun w => True) (fun v F => v = .int .i64 (s.count 47 : Int)) :=
  spec_of_calls Tryz.func166 (by decide) (by decide) fun w => Tryz.strings_Count_one ⟨s.toArray⟩ 47 w

theorem index_spec (s : List UInt8) : PureSpec Tryz.prog 167 [strV s, strV [47]] (fun w => True) (fun v F => v = .int .i64 (slash s)) := by
  rw [← indexByte_slash]
  exact spec_of_calls Tryz.func167 (by decide) (by decide) fun w => Tryz.strings_Index_one ⟨s.toArray⟩ 47 w

end Go.Proofs.YtfeoedkmndkbjaaGreatDoor
namespace Go.Proofs.YtfeoedkmndkbjaaGreatDoor
open Go Go.Sx
set_option maxRecDepth 100000
set_option maxHeartbeats 4000000
set_option linter.unusedVariables false
set_option linter.unusedSimpArgs false

def pre (s : List UInt8) : Bool := s.take 1 == [47]

theorem prefix_spec (s : List UInt8) (hs : s.length ≤ 1000000) : PureSpec Tryz.prog 164 [strV s, strV [47]] (fun w => True) (fun v F => v = .bool (pre s)) := by
  refine PureSpec.of_xc tabOk Tryz.func164 rfl (by decide) (n := Tryz.f164.ntmps - 2) rfl rfl fun w0 av => ?_
  conv => whnf
  repeat' (first
    | (refine XSame.of ?_; conv => whnf))
  refine XIf.split (fun hlt => ?_) (fun hlt => ?_)
  · conv => whnf
    have h1 : 1 ≤ s.length := by
      have := hlt
      simp only [iGe_eq, mk_size, decide_eq_true_eq] at this
      simp at this
      omega
    refine XVal.of_read (XRead.strTake tabOk (t := 9) rfl rfl 1 rfl h1 ?_)
    conv => whnf
    refine XVal.of_read (XRead.strEq (l := s.take 1) (m := [47]) ?_)
    conv => whnf
    repeat' (first
      | (refine XSame.of ?_; conv => whnf))
    exact ⟨_, Ent.refl _, rfl⟩
  · conv => whnf
    repeat' (first
      | (refine XSame.of ?_; conv => whnf))
    have h1 : s = [] := by
      have := hlt
      simp only [iGe_eq, mk_size, decide_eq_false_iff_not] at this
      simp at this
      exact List.eq_nil_of_length_eq_zero (by omega)
    subst h1
    exact ⟨_, Ent.refl _, rfl⟩

def cutV (s : List UInt8) : Value := .tuple #[strV (if pre s then s.drop 1 else s), .bool (pre s)]

theorem cut_spec (s : List UInt8) (hs : s.length ≤ 1000000) : PureSpec Tryz.prog 142 [strV s, strV [47]] (fun w => True) (fun v F => v = cutV s) := by
  refine PureSpec.of_xc tabOk Tryz.func142 rfl (by decide) (n := Tryz.f142.ntmps - 2) rfl rfl fun w0 av => ?_
  conv => whnf
  refine XCall.val (prefix_spec s hs) (fun w hw => trivial) (fun v D hv => ?_)
  subst hv
  conv => whnf
  generalize hp : pre s = b
  cases b
  · conv => whnf
    refine ⟨_, Ent.refl _, ?_⟩
    simp only [cutV, hp]
    rfl
  · conv => whnf
    have h1 : 1 ≤ s.length := by
      cases s with
      | nil => cases hp
      | cons x s => simp
    refine XVal.of_read (XRead.strDrop tabOk (t := 9) rfl rfl 1 rfl h1 ?_)
    conv => whnf
    refine ⟨_, Ent.refl _, ?_⟩
    simp only [cutV, hp]
    rfl

theorem cutPrefix_spec (s : List UInt8) (hs : s.length ≤ 1000000) : PureSpec Tryz.prog 115 [strV s, strV [47]] (fun w => True) (fun v F => v = cutV s) := by
  refine PureSpec.of_xc tabOk Tryz.func115 rfl (by decide) (n := Tryz.f115.ntmps - 2) rfl rfl fun w0 av => ?_
  conv => whnf
  refine XCall.val (cut_spec s hs) (fun w hw => trivial) (fun v D hv => ?_)
  subst hv
  unfold cutV
  conv => whnf
  exact ⟨_, Ent.refl _, rfl⟩

/-! ### splitting -/

def splitOn : List UInt8 → List (List UInt8)
  | [] => [[]]
  | c :: r => if c = 47 then [] :: splitOn r else match splitOn r with
    | x :: xs => (c :: x) :: xs
    | [] => [[c]]

theorem splitOn_ne (r : List UInt8) : splitOn r ≠ [] := by
  cases r with
  | nil => simp [splitOn]
  | cons c r =>
    unfold splitOn
    split
    · simp
    · split <;> simp

theorem splitOn_len : ∀ r : List UInt8, (splitOn r).length = r.count 47 + 1
  | [] => rfl
  | c :: r => by
    have ih := splitOn_len r
    unfold splitOn
    by_cases h : c = 47
    · subst h
      rw [if_pos rfl, List.count_cons_self, List.length_cons, ih]
    · rw [if_neg h, List.count_cons_of_ne h]
      split
      · rename_i x xs hx
        rw [hx] at ih
        simpa using ih
      · rename_i hx
        exact absurd hx (splitOn_ne r)

theorem splitOn_none {r : List UInt8} (h : r.count 47 = 0) : splitOn r = [r] := by
  induction r with
  | nil => rfl
  | cons c r ih =>
    by_cases hc : c = 47
    · subst hc
      rw [List.count_cons_self] at h
      omega
    · rw [List.count_cons_of_ne hc] at h
      unfold splitOn
      rw [if_neg hc, ih h]

theorem splitOn_some : ∀ {r : List UInt8}, r.count 47 ≠ 0 → ∃ k : Nat, slash r = (k : Int) ∧ k < r.length ∧ splitOn r = r.take k :: splitOn (r.drop (k + 1)) ∧ r.count 47 = (r.drop (k + 1)).count 47 + 1
  | [], h => absurd rfl h
  | c :: r, h => by
    by_cases hc : c = 47
    · subst hc
      refine ⟨0, rfl, by simp, ?_, by simp⟩
      conv => lhs; unfold splitOn
      simp
    · rw [List.count_cons_of_ne hc] at h
      obtain ⟨k, h1, h2, h3, h4⟩ := splitOn_some h
      refine ⟨k + 1, ?_, by simp; omega, ?_, by rw [List.count_cons_of_ne hc]; simpa using h4⟩
      · unfold slash at h1 ⊢
        have hb : (c == 47) = false := by simpa using hc
        simp only [List.findIdx?_cons, hb]
        cases hf : r.findIdx? (· == 47) with
        | none => rw [hf] at h1; simp at h1
        | some n =>
          rw [hf] at h1
          simp only [Int.natCast_inj] at h1
          subst h1
          simp
      · conv => lhs; unfold splitOn
        rw [if_neg hc, h3]
        rfl

/-- A new slice of strings is handed back. -/
def StrAt (w : World) (h : Hd) (l : List (List UInt8)) : Prop := RowAt w h.a (l.map strV)
def RelS (l : List (List UInt8)) (v : Value) (F : Fx) : Prop := ∃ h : Hd, v = h.v l.length ∧ h.Ok l.length ∧ F = ⟨fun w => StrAt w h l, []⟩

theorem laid_next (d : List (List UInt8)) (x : List UInt8) (z : Value) (n : Nat) (h : d.length < n) : laid (d.map strV ++ List.replicate (n - d.length) z) d.length [strV x] = (d ++ [x]).map strV ++ List.replicate (n - (d ++ [x]).length) z := by
  obtain ⟨k, hk⟩ : ∃ k, n - d.length = k + 1 := ⟨n - d.length - 1, by omega⟩
  have hk2 : n - (d ++ [x]).length = k := by simp; omega
  rw [hk, hk2]
  unfold laid
  have e : d.length = (d.map strV).length := by simp
  rw [e, List.take_left, List.drop_append]
  simp [List.replicate_succ]

theorem genSplit_spec (s p : List UInt8) (n : Int) (hs : s.length ≤ 1000) (hp : p = [47]) (hn : n < 0) : PureSpec Tryz.prog 143 [strV s, strV p, .int .i64 0, .int .i64 n] (fun w => True) (RelS (splitOn s)) := by
  have hcnt : s.count 47 ≤ s.length := List.count_le_length
  refine PureSpec.of_xc tabOk Tryz.func143 rfl (by decide) (n := Tryz.f143.ntmps - 4) rfl rfl fun w0 av => ?_
  conv => whnf
  refine XIf.no (by simp [iEq_eq]; omega) ?_
  conv => whnf
  refine XVal.of_read (XRead.strEq (l := p) (m := []) ?_)
  conv => whnf
  refine XIf.no (by simp [hp]) ?_
  subst hp
  conv => whnf
  refine XIf.yes (by simp [iLt_eq]; omega) ?_
  conv => whnf
  refine XCall.val (count_spec s) (fun w hw => trivial) (fun v D hv => ?_)
  subst hv
  conv => whnf
  generalize hN : ite (IntKind.i64.wrap _ < IntKind.i64.wrap _) _ _ = N
  have hN : N = ((s.count 47 + 1 : Nat) : Int) := by
    rw [← hN, mk_size, wrap_i64 (by omega), wrap_i64 (by omega)]
    split <;> omega
  subst hN
  refine XVal.makeRow tabOk (t := 51) rfl rfl rfl (s.count 47 + 1) rfl rfl (by omega) (by decide) rfl (by omega) (by simp; omega) fun b => ?_
  conv => whnf
  generalize hN : IntKind.i64.wrap _ = N
  have hN : N = ((s.count 47 : Nat) : Int) := by
    rw [← hN, wrap_i64 (by omega)]
    omega
  subst hN
  refine XStop.loop tabOk (ι := List UInt8 × List (List UInt8)) ([0, 10, 11] ++ List.range' 34 24) (fun x => splitOn s = x.2 ++ splitOn x.1 ∧ x.1.length ≤ s.length ∧ x.2.length + x.1.count 47 = s.count 47)
    (fun x => [(0, .v (strV x.1)), (10, .v (.int .i64 (x.2.length : Int)))]) (fun _ => [])
    (fun x => ⟨fun w => True, [] ++ [(b, Row.c (x.2.map strV ++ List.replicate (s.count 47 + 1 - x.2.length) (strV [])))] ++ []⟩)
    (fun x => x.1.count 47) (s, []) ⟨rfl, Nat.le_refl _, by simp⟩ ?_ rfl (Ent.of_le ⟨by simp [strV], fun w hw => trivial⟩) fun x hx => ?_
  · conv => whnf
    repeat (first | exact FLe.nil | refine FLe.any ?_ | refine FLe.cons ?_)
  obtain ⟨r, d⟩ := x
  obtain ⟨hsp, hrl, hct⟩ := hx
  dsimp only at hsp hrl hct ⊢
  conv => whnf
  refine XIf.split (fun hlt => ?_) (fun hlt => ?_)
  · conv => whnf
    have hlt' : d.length < s.count 47 := by
      have := hlt
      simp only [iLt_eq, decide_eq_true_eq] at this
      omega
    obtain ⟨k, hk1, hk2, hk3, hk4⟩ := splitOn_some (r := r) (by omega)
    refine XCall.val (index_spec r) (fun w hw => trivial) (fun v D hv => ?_)
    generalize hkk : slash r = kk at hv hk1
    subst hv
    conv => whnf
    refine XIf.no (by simp [iLt_eq, hk1]) ?_
    conv => whnf
    subst hk1
    refine XVal.of_read (XRead.strTake tabOk (t := 9) rfl rfl k (by rw [wrap_i64 (by omega)]; omega) (by omega) ?_)
    conv => whnf
    refine XVal.of_read (XRead.index tabOk (t := 51) rfl rfl rfl (by omega) (by omega) (fun h => by cases h) fun ad had => ?_)
    cases had
    conv => whnf
    refine XUnit.storeIn tabOk (t := 9) rfl (C := d.map strV ++ List.replicate (s.count 47 + 1 - d.length) (strV [])) (k := d.length) (r1 := []) (r2 := []) (by simp [Addr.add]; intro h; subst h; rfl) rfl (by simp [Value.cells, strV, oneCell]) (by simp; omega) ?_
    conv => whnf
    refine XVal.of_read (XRead.strDrop tabOk (t := 9) rfl rfl (k + 1) (by rw [mk_size, wrap_i64 (by simp; omega)]; simp) (by omega) ?_)
    conv => whnf
    refine ⟨(r.drop (k + 1), d ++ [r.take k]), ⟨⟨?_, by simp; omega, by simp; omega⟩, by dsimp only; omega⟩, ?_, ?_, ?_⟩
    · dsimp only
      rw [hsp, hk3]
      simp
    · conv => whnf
      refine ⟨?_, rfl⟩
      repeat (first | exact FLe.nil | refine FLe.any ?_ | refine FLe.cons ?_ | refine FLe.eq (by rw [wrap_i64 (by omega)]; rfl) ?_ | refine FLe.eq (by rw [wrap_i64 (by omega)]; simp) ?_)
    · conv => whnf
      exact trivial
    · have hl := laid_next d (r.take k) (strV []) (s.count 47 + 1) (by omega)
      refine Ent.of_le ⟨?_, fun w hw => hw⟩
      simp only [Value.cells, strV] at hl ⊢
      simp only [hl]
      exact List.Sublist.refl _
  · conv => whnf
    have hde : d.length = s.count 47 := by
      have := hlt
      simp only [iLt_eq, decide_eq_false_iff_not] at this
      omega
    have hr0 : r.count 47 = 0 := by omega
    rw [splitOn_none hr0] at hsp
    refine XVal.of_read (XRead.index tabOk (t := 51) rfl rfl rfl (by omega) (by omega) (fun h => by cases h) fun ad had => ?_)
    cases had
    conv => whnf
    refine XUnit.storeIn tabOk (t := 9) rfl (C := d.map strV ++ List.replicate (s.count 47 + 1 - d.length) (strV [])) (k := d.length) (r1 := []) (r2 := []) (by simp [Addr.add]; intro h; subst h; rfl) rfl (by simp [Value.cells, strV, oneCell]) (by simp; omega) ?_
    conv => whnf
    refine XVal.of_read (XRead.slice tabOk (t := 51) rfl rfl rfl (lo := none) (hi := some _) (mx := none) (k1 := .i64) (k3 := .i64) 0 (d.length + 1) (s.count 47 + 1) rfl (by show IntKind.i64.wrap ((d.length : Int) + 1) = ((d.length + 1 : Nat) : Int); rw [wrap_i64 (by omega)]; rfl) rfl (by omega) (by omega) (Nat.le_refl _) (by simp) ?_)
    conv => whnf
    rw [cutA_zero]
    refine ⟨⟨fun w => StrAt w ⟨some ⟨b, 0, none⟩, s.count 47 + 1⟩ (splitOn s), []⟩, (Ent.shareAll).trans (Ent.imp fun w h => ?_), ⟨some ⟨b, 0, none⟩, s.count 47 + 1⟩, ?_, ⟨fun h => (by cases h), by rw [splitOn_len]; exact Nat.le_refl _⟩, rfl⟩
    · have hl := laid_next d r (strV []) (s.count 47 + 1) (by omega)
      have he : (d ++ [r]).map strV ++ List.replicate (s.count 47 + 1 - (d ++ [r]).length) (strV []) = (splitOn s).map strV := by
        rw [hsp]
        simp [hde]
      rw [he] at hl
      have h2 := h.2.1
      simp only [Value.cells, strV] at hl h2
      rw [show ([Value.string ⟨⟨r⟩⟩] : List Value) = (#[Value.string ⟨⟨r⟩⟩] : Array Value).toList from rfl] at hl
      rw [hl] at h2
      exact h2
    · have : (splitOn s).length = s.count 47 + 1 := splitOn_len s
      simp only [this, hde]
      rfl

end Go.Proofs.YtfeoedkmndkbjaaGreatDoor
namespace Go.Proofs.YtfeoedkmndkbjaaGreatDoor
open Go Go.Sx
set_option maxRecDepth 100000
set_option maxHeartbeats 4000000
set_option linter.unusedVariables false
set_option linter.unusedSimpArgs false

theorem split_spec (s : List UInt8) (hs : s.length ≤ 1000) : PureSpec Tryz.prog 116 [strV s, strV [47]] (fun w => True) (RelS (splitOn s)) := by
  refine PureSpec.of_xc tabOk Tryz.func116 rfl (by decide) (n := Tryz.f116.ntmps - 2) rfl rfl fun w0 av => ?_
  conv => whnf
  refine XCall.pure (genSplit_spec s [47] (-1) hs rfl (by omega)) (fun w hw => trivial) (fun v D hv => ?_)
  obtain ⟨h, rfl, hh, rfl⟩ := hv
  conv => whnf
  exact ⟨_, Ent.of_le ⟨by simp [Fx.and], fun w hw => hw.2⟩, h, rfl, hh, rfl⟩

theorem bad_spec (s : List UInt8) (hs : s.length ≤ 1000000) : PureSpec Tryz.prog 118 [strV s] (fun w => True) (fun v F => v = .bool (!vname s)) := by
  refine PureSpec.of_xc tabOk Tryz.func118 rfl (by decide) (n := Tryz.f118.ntmps - 1) rfl rfl fun w0 av => ?_
  conv => whnf
  refine XCall.val (valid_spec s hs) (fun w hw => trivial) (fun v D hv => ?_)
  subst hv
  conv => whnf
  exact ⟨_, Ent.refl _, rfl⟩

theorem indexBad_spec (h : Hd) (l : List (List UInt8)) (hh : h.Ok l.length) (hl : l.length ≤ 1000000) (hx : ∀ s ∈ l, s.length ≤ 1000000) :
    PureSpec Tryz.prog 144 [h.v l.length, .func (.func 118) #[] #[]] (fun w => StrAt w h l) (fun v F => ∃ j : Int, v = .int .i64 j ∧ decide (j ≥ 0) = !l.all vname) := by
  refine PureSpec.of_xc tabOk Tryz.func144 rfl (by decide) (n := Tryz.f144.ntmps - 2) rfl rfl fun w0 av => ?_
  conv => whnf
  refine XStop.loop tabOk (ι := Nat) ([5] ++ List.range' 8 11) (fun x => x ≤ l.length ∧ (l.take x).all vname = true)
    (fun x => [(8, .v (.int .i64 (x : Int)))]) (fun _ => []) (fun _ => ⟨fun w => StrAt w h l, []⟩)
    (fun x => l.length - x) 0 ⟨Nat.zero_le _, rfl⟩ ?_ rfl (Ent.refl _) fun i hi => ?_
  · conv => whnf
    repeat (first | exact FLe.nil | refine FLe.any ?_ | refine FLe.cons ?_)
  obtain ⟨hi, hall⟩ := hi
  conv => whnf
  refine XIf.split (fun hlt => ?_) (fun hlt => ?_)
  · conv => whnf
    have hlt' : i < l.length := by
      have := hlt
      simp only [iLt_eq, decide_eq_true_eq] at this
      omega
    refine XVal.of_read (XRead.index tabOk (t := 51) rfl rfl rfl (by omega) (by omega) hh.nil fun ad had => ?_)
    conv => whnf
    refine XVal.of_read (XRead.load tabOk (t := 9) rfl rfl (ad := ad) (k := i) (L := l.map strV) (v := strV l[i]) (fun w hst => had ▸ hst.now) (by simp) (by simp [hlt']) ?_)
    conv => whnf
    refine XCall.val (bad_spec l[i] (hx _ (List.getElem_mem hlt'))) (fun w hw => trivial) (fun v D hv => ?_)
    generalize hvb : vname l[i] = vb at hv
    subst hv
    cases vb
    · conv => whnf
      refine ⟨_, Ent.refl _, _, rfl, ?_⟩
      have : l.all vname = false := by
        rw [List.all_eq_false]
        exact ⟨_, List.getElem_mem hlt', by rw [hvb]; simp⟩
      rw [this]
      simp
    · conv => whnf
      refine ⟨i + 1, ⟨⟨hlt', ?_⟩, by dsimp only; omega⟩, ?_, ?_, Ent.refl _⟩
      · rw [List.take_succ_eq_append_getElem hlt', List.all_append, hall]
        simp [hvb]
      · conv => whnf
        refine ⟨?_, rfl⟩
        repeat (first | exact FLe.nil | refine FLe.any ?_ | refine FLe.cons ?_ | refine FLe.eq (by rw [wrap_i64 (by omega)]; rfl) ?_)
      · conv => whnf
        exact trivial
  · conv => whnf
    have hie : i = l.length := by
      have := hlt
      simp only [iLt_eq, decide_eq_false_iff_not] at this
      omega
    subst hie
    rw [List.take_length] at hall
    exact ⟨_, Ent.refl _, _, rfl, by rw [hall]; rfl⟩

theorem containsBad_spec (h : Hd) (l : List (List UInt8)) (hh : h.Ok l.length) (hl : l.length ≤ 1000000) (hx : ∀ s ∈ l, s.length ≤ 1000000) :
    PureSpec Tryz.prog 117 [h.v l.length, .func (.func 118) #[] #[]] (fun w => StrAt w h l) (fun v F => v = .bool (!l.all vname)) := by
  refine PureSpec.of_xc tabOk Tryz.func117 rfl (by decide) (n := Tryz.f117.ntmps - 2) rfl rfl fun w0 av => ?_
  conv => whnf
  refine XCall.val (indexBad_spec h l hh hl hx) (fun w hw => hw) (fun v D hv => ?_)
  obtain ⟨j, rfl, hj⟩ := hv
  conv => whnf
  refine ⟨_, Ent.refl _, ?_⟩
  show Value.bool (iGe j 0) = _
  rw [← hj, iGe_eq]

/-- What Split returns. -/
def splitR (p : List UInt8) : List (List UInt8) × Int :=
  if pre p = true ∧ p.length ≤ 60 then (if p.drop 1 = [] then ([], 0) else if (splitOn (p.drop 1)).all vname = true then (splitOn (p.drop 1), 0) else ([], 15)) else ([], 15)

def RelP (q : List (List UInt8) × Int) (v : Value) (F : Fx) : Prop := ∃ h : Hd, v = .tuple #[h.v q.1.length, .int .i64 q.2] ∧ h.Ok q.1.length ∧ F = ⟨fun w => StrAt w h q.1, []⟩

theorem relP_nil {D : World → Prop} {q : List (List UInt8) × Int} {e : Int} (h : q = ([], e)) : ∃ F', Ent ⟨D, []⟩ F' ∧ RelP q (.tuple #[.slice none 0 0, .int .i64 e]) F' := by
  subst h
  exact ⟨⟨fun w => StrAt w Hd.nil [], []⟩, Ent.imp fun w _ => RowAt.nilA, Hd.nil, rfl, Hd.nil_ok, rfl⟩

theorem splitOn_small : ∀ (r : List UInt8), ∀ s ∈ splitOn r, s.length ≤ r.length
  | [], s, h => by simp [splitOn] at h; subst h; simp
  | c :: r, s, h => by
    have ih := splitOn_small r
    unfold splitOn at h
    split at h
    · rcases List.mem_cons.1 h with e | h
      · subst e; simp
      · have := ih s h
        simp
        omega
    · split at h
      · rename_i x xs hx
        rcases List.mem_cons.1 h with e | h
        · subst e
          have := ih x (by rw [hx]; exact List.mem_cons_self ..)
          simp
          omega
        · have := ih s (by rw [hx]; exact List.mem_cons_of_mem _ h)
          simp
          omega
      · rcases List.mem_cons.1 h with e | h
        · subst e; simp
        · cases h

theorem dirsSplit_spec (p : List UInt8) (hp : p.length ≤ 200) : PureSpec Tryz.prog 66 [strV p] (fun w => True) (RelP (splitR p)) := by
  refine PureSpec.of_xc tabOk Tryz.func66 rfl (by decide) (n := Tryz.f66.ntmps - 1) rfl rfl fun w0 av => ?_
  conv => whnf
  refine XCall.val (cutPrefix_spec p (by omega)) (fun w hw => trivial) (fun v D hv => ?_)
  unfold cutV at hv
  generalize hpre : pre p = b at hv
  subst hv
  conv => whnf
  cases b
  · conv => whnf
    repeat' (first
      | (refine XSame.of ?_; conv => whnf))
    refine relP_nil ?_
    unfold splitR
    rw [if_neg (by rw [hpre]; simp)]
  · conv => whnf
    repeat' (first
      | (refine XSame.of ?_; conv => whnf))
    refine XIf.split (fun hlt => ?_) (fun hlt => ?_)
    · conv => whnf
      refine relP_nil ?_
      unfold splitR
      rw [if_neg]
      rintro ⟨-, h2⟩
      have := hlt
      have hsz : (ByteArray.mk ⟨p⟩).size = p.length := rfl
      simp [iGt_eq, hsz] at this
      omega
    · conv => whnf
      have hle : p.length ≤ 60 := by
        have := hlt
        have hsz : (ByteArray.mk ⟨p⟩).size = p.length := rfl
        simp [iGt_eq, hsz] at this
        omega
      have hR : splitR p = (if p.drop 1 = [] then ([], 0) else if (splitOn (p.drop 1)).all vname = true then (splitOn (p.drop 1), 0) else ([], 15)) := by
        unfold splitR
        rw [if_pos ⟨hpre, hle⟩]
      refine XVal.of_read (XRead.strEq (l := p.drop 1) (m := []) ?_)
      conv => whnf
      refine XIf.split (fun h0 => ?_) (fun h0 => ?_)
      · conv => whnf
        refine relP_nil ?_
        rw [hR, if_pos (by simpa using h0)]
      · conv => whnf
        have h0' : p.drop 1 ≠ [] := by simpa using h0
        have hdl : (p.drop 1).length ≤ 200 := by simp; omega
        refine XCall.pure (split_spec (p.drop 1) (by omega)) (fun w hw => trivial) (fun v D hv => ?_)
        obtain ⟨h, rfl, hh, rfl⟩ := hv
        conv => whnf
        have hbig : (splitOn (p.drop 1)).length ≤ 1000000 := by
          rw [splitOn_len]
          have : (p.drop 1).count 47 ≤ (p.drop 1).length := List.count_le_length
          omega
        refine XCall.val (containsBad_spec h (splitOn (p.drop 1)) hh hbig (fun s hs => by have := splitOn_small _ s hs; omega)) (fun w hw => hw.2) (fun v D hv => ?_)
        generalize hall : (splitOn (p.drop 1)).all vname = b at hv
        subst hv
        cases b
        · conv => whnf
          refine relP_nil ?_
          rw [hR, if_neg h0', if_neg (by rw [hall]; simp)]
        · conv => whnf
          refine ⟨⟨fun w => StrAt w h (splitOn (p.drop 1)), []⟩, Ent.of_le ⟨by simp [Fx.and], fun w hw => hw.2⟩, h, ?_, ?_, ?_⟩
          · rw [hR, if_neg h0', if_pos hall]
          · rw [hR, if_neg h0', if_pos hall]
            exact hh
          · rw [hR, if_neg h0', if_pos hall]

end Go.Proofs.YtfeoedkmndkbjaaGreatDoor
namespace Go.Proofs.YtfeoedkmndkbjaaGreatDoor
open Go Go.Sx
set_option maxRecDepth 100000
set_option maxHeartbeats 4000000
set_option linter.unusedVariables false
set_option linter.unusedSimpArgs false

/-- One byte more. -/
def step (m : List (List UInt8)) (c : UInt8) : List (List UInt8) := if c = 47 then m ++ [[]] else m.dropLast ++ [(m.getLastD []) ++ [c]]

def glue (x : List UInt8) : List (List UInt8) → List (List UInt8)
  | [] => [x]
  | y :: ys => (x ++ y) :: ys

theorem step_snoc (a : List (List UInt8)) (x : List UInt8) (c : UInt8) : step (a ++ [x]) c = if c = 47 then (a ++ [x]) ++ [[]] else a ++ [x ++ [c]] := by
  unfold step
  split
  · rfl
  · simp

theorem foldl_step : ∀ (r : List UInt8) (a : List (List UInt8)) (x : List UInt8), r.foldl step (a ++ [x]) = a ++ glue x (splitOn r)
  | [], a, x => by simp [splitOn, glue]
  | c :: r, a, x => by
    rw [List.foldl_cons, step_snoc]
    by_cases hc : c = 47
    · rw [if_pos hc, foldl_step r]
      conv => rhs; unfold splitOn
      rw [if_pos hc]
      have := splitOn_ne r
      cases hs : splitOn r with
      | nil => exact absurd hs this
      | cons y ys => simp [glue]
    · rw [if_neg hc, foldl_step r]
      conv => rhs; unfold splitOn
      rw [if_neg hc]
      have := splitOn_ne r
      cases hs : splitOn r with
      | nil => exact absurd hs this
      | cons y ys => simp [glue]

theorem foldl_split (r : List UInt8) : r.foldl step [[]] = splitOn r := by
  have := foldl_step r [] []
  simp only [List.nil_append] at this
  rw [this]
  have h := splitOn_ne r
  cases hs : splitOn r with
  | nil => exact absurd hs h
  | cons y ys => simp [glue]

theorem getLast_get {m : List (List UInt8)} (hm : m ≠ []) : m[m.length - 1]? = some (m.getLastD []) := by
  have h := List.getLast?_eq_some_getLast hm
  rw [← List.getLast?_eq_getElem?, List.getLastD_eq_getLast?, h]
  rfl

theorem Own.lay1 {n : Nat} {b c : Nat} {C : List Value} {m : List (List UInt8)} (h : Own 1 n (some ⟨b, 0, none⟩) c C (m.map strV)) (hn : n = m.length) (hm : m ≠ []) (x : List UInt8) :
    Own 1 n (some ⟨b, 0, none⟩) c (laid C (n - 1) [strV x]) ((m.dropLast ++ [x]).map strV) := by
  have hl : 0 < m.length := List.length_pos_iff.2 hm
  rcases h.alt with ⟨h1, _⟩ | ⟨b', h1, h2, h3⟩
  · cases h1
  · cases h1
    have hfit := h.fit
    have hCl : C.length = c := by rw [h2, Nat.mul_one]
    refine ⟨by simp; omega, h.fit, .inr ⟨b, rfl, by rw [laid_len (by simp; omega), h2], ?_⟩⟩
    rw [Nat.mul_one] at h3 ⊢
    have hp : (C.take (n - 1)).length = n - 1 := by simp; omega
    have e1 : C.take (n - 1) = m.dropLast.map strV := by
      have h4 : (C.take n).take (n - 1) = (m.map strV).take (n - 1) := by rw [h3]
      rw [List.take_take, Nat.min_eq_left (by omega)] at h4
      rw [h4, ← List.map_take, List.dropLast_eq_take, hn]
    unfold laid
    rw [List.append_assoc, List.take_append, List.take_of_length_le (by omega), hp, show n - (n - 1) = 1 from by omega, e1]
    simp

theorem own_take {sz n b c : Nat} {C L : List Value} (h : Own sz n (some ⟨b, 0, none⟩) c C L) : C.take (n * sz) = L := by
  rcases h.alt with ⟨h1, _⟩ | ⟨b', h1, _, h3⟩
  · cases h1
  · exact h3

theorem refSplit_spec (p : List UInt8) (hp : p.length ≤ 200) : PureSpec Tryz.prog 76 [strV p] (fun w => True) (RelP (splitR p)) := by
  have hsz : (ByteArray.mk ⟨p⟩).size = p.length := rfl
  refine PureSpec.of_xc tabOk Tryz.func76 rfl (by decide) (n := Tryz.f76.ntmps - 1) rfl rfl fun w0 av => ?_
  conv => whnf
  refine XVal.of_read (XRead.strEq (l := p) (m := [47]) ?_)
  conv => whnf
  refine XIf.split (fun h0 => ?_) (fun h0 => ?_)
  · conv => whnf
    have h0 : p = [47] := by simpa using h0
    refine relP_nil ?_
    subst h0
    rfl
  conv => whnf
  have h0 : p ≠ [47] := by simpa using h0
  repeat' (first
    | (refine XSame.of ?_; conv => whnf))
  generalize hc : (iLt _ 2 || iGt _ 60) = b
  have hc : (decide (p.length < 2) || decide (60 < p.length)) = b := by
    rw [← hc]
    simp only [iLt_eq, iGt_eq, hsz]
    congr 1 <;> rw [decide_eq_decide] <;> omega
  cases b
  rotate_left
  · conv => whnf
    repeat' (first
      | (refine XSame.of ?_; conv => whnf)
      | (refine XIf.yes rfl ?_; conv => whnf))
    refine relP_nil ?_
    unfold splitR
    by_cases h : pre p = true ∧ p.length ≤ 60
    · exfalso
      have h60 : ¬ 60 < p.length := by omega
      simp [h60] at hc
      obtain ⟨h1, h2⟩ := h
      unfold pre at h1
      cases p with
      | nil => cases h1
      | cons x p =>
        cases p with
        | nil => exact h0 (by simpa using h1)
        | cons y p => simp at hc; omega
    · rw [if_neg h]
  have h2 : 2 ≤ p.length := by
    have : ¬ p.length < 2 := by
      intro h
      simp [h] at hc
    omega
  have h60 : p.length ≤ 60 := by
    have : ¬ 60 < p.length := by
      intro h
      simp [h] at hc
    omega
  conv => whnf
  refine XVal.of_read (XRead.strIndex tabOk (t := 9) rfl rfl 0 rfl (by omega) ?_)
  conv => whnf
  repeat' (first
    | (refine XSame.of ?_; conv => whnf))
  refine XIf.split (fun h47 => ?_) (fun h47 => ?_)
  · conv => whnf
    refine relP_nil ?_
    unfold splitR
    rw [if_neg]
    rintro ⟨h1, -⟩
    unfold pre at h1
    cases p with
    | nil => simp at h2
    | cons x p =>
      simp at h1
      subst h1
      simp [iNe_eq] at h47
  conv => whnf
  have hpre : pre p = true := by
    unfold pre
    cases p with
    | nil => simp at h2
    | cons x p =>
      have : x = 47 := by
        have h := h47
        simp [iNe_eq] at h
        apply UInt8.toNat_inj.1
        have e : (47 : UInt8).toNat = 47 := rfl
        rw [e]
        omega
      subst this
      simp
  have hne : p.drop 1 ≠ [] := by
    intro h
    have := congrArg List.length h
    simp at this
    omega
  have hR : splitR p = (if (splitOn (p.drop 1)).all vname = true then (splitOn (p.drop 1), 0) else ([], 15)) := by
    unfold splitR
    rw [if_pos ⟨hpre, h60⟩, if_neg hne]
  refine XVal.build tabOk (t := 51) rfl rfl rfl [strV []] rfl rfl (by simp [Value.cells, strV]) (by decide) fun b0 => ?_
  conv => whnf
  refine XStop.loop tabOk (ι := Nat × List (List UInt8) × Option Addr × Nat × List Value) ([4, 5] ++ List.range' 23 26)
    (fun x => (1 ≤ x.1 ∧ x.1 ≤ p.length) ∧ x.2.1 ≠ [] ∧ x.2.1.length ≤ x.1 ∧ (p.drop x.1).foldl step x.2.1 = splitOn (p.drop 1) ∧ (∀ s ∈ x.2.1, s.length ≤ x.1) ∧ Own 1 x.2.1.length x.2.2.1 x.2.2.2.1 x.2.2.2.2 (x.2.1.map strV))
    (fun x => [(4, .v (.slice x.2.2.1 x.2.1.length x.2.2.2.1)), (5, .v (.int .i64 (x.1 : Int)))]) (fun _ => [])
    (fun x => ⟨fun w => True, orow x.2.2.1 x.2.2.2.2⟩)
    (fun x => p.length - x.1) (1, [[]], some ⟨b0, 0, none⟩, 1, [strV []]) ⟨⟨Nat.le_refl _, by omega⟩, by simp, Nat.le_refl _, foldl_split _, by simp, Own.full rfl⟩ ?_ rfl (Ent.of_le ⟨by simp [orow, Value.cells, strV], fun w hw => trivial⟩) fun x hx => ?_
  · conv => whnf
    repeat (first | exact FLe.nil | refine FLe.any ?_ | refine FLe.cons ?_)
  obtain ⟨i, m, a, c, C⟩ := x
  obtain ⟨⟨hi1, hi⟩, hm, hml, hfold, hmx, hO⟩ := hx
  dsimp only at hi1 hi hm hml hfold hmx hO ⊢
  have hmpos : 0 < m.length := List.length_pos_iff.2 hm
  obtain ⟨b, rfl⟩ := own_some hO hmpos
  conv => whnf
  refine XIf.split (fun hlt => ?_) (fun hlt => ?_)
  · conv => whnf
    have hlt' : i < p.length := by
      have h := hlt
      simp [iLt_eq, hsz] at h
      omega
    have hdrop : p.drop i = p[i] :: p.drop (i + 1) := List.drop_eq_getElem_cons hlt'
    rw [hdrop, List.foldl_cons] at hfold
    refine XVal.of_read (XRead.strIndex tabOk (t := 9) rfl rfl i rfl hlt' ?_)
    conv => whnf
    generalize hci : p[i] = ci at hfold
    refine XIf.split (fun hc47 => ?_) (fun hc47 => ?_)
    · have hc47' : ci = 47 := by
        have h := hc47
        simp [iEq_eq] at h
        apply UInt8.toNat_inj.1
        have e : (47 : UInt8).toNat = 47 := rfl
        rw [e]
        omega
      conv => whnf
      refine XVal.build tabOk (t := 51) rfl rfl rfl [strV []] rfl rfl (by simp [Value.cells, strV]) (by decide) fun b1 => ?_
      conv => whnf
      refine XVal.ent (F' := ⟨fun w => True, [] ++ orow (some ⟨b, 0, none⟩) C ++ [(b1, Row.c [strV []])]⟩) (Ent.of_le ⟨by simp [orow, Value.cells, strV], fun w hw => hw⟩) ?_
      refine XVal.append tabOk (t := 51) (xt := 51) rfl rfl rfl rfl rfl rfl (r1 := []) (r2 := [(b1, Row.c [strV []])]) (M := [strV []]) hO (Sees.row (by simp)) rfl (by simp [strV, oneCell]) (by omega) (by simp; omega) fun a' c' C' hO' => ?_
      conv => whnf
      refine ⟨(i + 1, m ++ [[]], a', c', C'), ⟨⟨⟨by omega, hlt'⟩, by simp, by simp; omega, ?_, ?_, by simpa using hO'⟩, by dsimp only; omega⟩, ?_, ?_, ?_⟩
      · rw [← hfold, hc47']
        rfl
      · intro s hs
        rcases List.mem_append.1 hs with hs | hs
        · have := hmx s hs
          omega
        · have : s = [] := by simpa using hs
          subst this
          simp
      · conv => whnf
        refine ⟨?_, rfl⟩
        repeat (first | exact FLe.nil | refine FLe.any ?_ | refine FLe.cons ?_ | refine FLe.eq (by rw [wrap_i64 (by omega)]; rfl) ?_ | refine FLe.eq (by simp) ?_)
      · conv => whnf
        exact trivial
      · refine Ent.of_le ⟨by simp, fun w hw => trivial⟩
    · have hc47' : ci ≠ 47 := by
        intro h
        subst h
        simp [iEq_eq] at hc47
      have hw : IntKind.i64.wrap ((m.length : Int) - 1) = ((m.length - 1 : Nat) : Int) := by
        rw [wrap_i64 (by omega)]
        omega
      have hlast : (m.getLastD []).length ≤ i := by
        refine hmx _ ?_
        exact List.mem_of_getElem? (getLast_get hm)
      refine XStop.draw tabOk mixed rfl rfl ?_
      conv => whnf
      repeat' (first
        | (refine And.intro ?_ ?_ <;> conv => whnf)
        | (refine XHeld.same rfl ?_; conv => whnf)
        | (refine XHeld.row rfl ?_; conv => whnf)
        | (refine XHeld.call rfl ?_; conv => whnf)
        | (refine XKeep.of ?_; conv => whnf)
        | (refine XSame.of ?_; conv => whnf)
        | (refine XRead.index tabOk (t := 51) rfl rfl rfl (by rw [hw]; omega) (by rw [hw]; omega) (fun h => by cases h) fun ad had => ?_; cases had; conv => whnf)
        | (refine XRead.load tabOk (t := 9) rfl rfl (ad := ⟨b, 0, none⟩) (k := m.length - 1) (L := m.map strV) (v := strV (m.getLastD [])) (((Sees.row (by simp [orow])).take (m.length * 1)).eq (own_take hO)) (by rw [hw]; simp) (by rw [List.getElem?_map, getLast_get hm]; rfl) ?_; conv => whnf)
        | (refine XRead.strCut tabOk (t := 9) rfl rfl i (i + 1) rfl (by rw [wrap_i64 (by omega)]; rfl) (by omega) hlt' ?_; conv => whnf)
        | (refine XRead.strAdd (l := m.getLastD []) (m := (p.drop i).take (i + 1 - i)) (by have htl : ((p.drop i).take (i + 1 - i)).length ≤ i + 1 - i := List.length_take_le _ _; omega) ?_; conv => whnf)
        | (refine XUnit.storeIn tabOk (t := 9) rfl (C := C) (k := m.length - 1) (r1 := []) (r2 := []) (by rw [hw]; simp [Addr.add]; intro h; omega) rfl (by simp [Value.cells, strV, oneCell]) (by have := hO.fit; have := own_take hO; have := congrArg List.length this; simp at this ⊢; omega) ?_; conv => whnf)
        | (refine XHeld.mk ?_ ?_; (focus (first | exact Ent.refl _ | exact Ent.left _ _ | exact Ent.of_le ⟨List.sublist_append_left _ _, fun w h => h⟩ | exact Ent.of_le ⟨List.Sublist.refl _, fun w h => h.1⟩)); conv => whnf))
      have htk : (p.drop i).take (i + 1 - i) = [ci] := by
        rw [hdrop, show i + 1 - i = 1 from by omega, hci]
        rfl
      have hstep : step m ci = m.dropLast ++ [m.getLastD [] ++ [ci]] := by
        unfold step
        rw [if_neg hc47']
      have hlen : (m.dropLast ++ [m.getLastD [] ++ [ci]]).length = m.length := by
        simp
        omega
      refine ⟨(i + 1, m.dropLast ++ [m.getLastD [] ++ [ci]], some ⟨b, 0, none⟩, c, laid C (m.length - 1) [strV (m.getLastD [] ++ [ci])]), ⟨⟨⟨by omega, hlt'⟩, by simp, by rw [hlen]; omega, ?_, ?_, ?_⟩, by dsimp only; omega⟩, ?_, ?_, ?_⟩
      · dsimp only
        rw [← hfold, hstep]
      · intro s hs
        rcases List.mem_append.1 hs with hs | hs
        · have := hmx s (List.dropLast_subset _ hs)
          dsimp only
          omega
        · have : s = m.getLastD [] ++ [ci] := List.mem_singleton.1 hs
          subst this
          show (m.getLastD [] ++ [ci]).length ≤ i + 1
          rw [List.length_append]
          have : [ci].length = 1 := rfl
          omega
      · dsimp only
        rw [hlen]
        exact Own.lay1 hO rfl hm _
      · conv => whnf
        refine ⟨?_, rfl⟩
        repeat (first | exact FLe.nil | refine FLe.any ?_ | refine FLe.cons ?_ | refine FLe.eq (by rw [wrap_i64 (by omega)]; rfl) ?_ | refine FLe.eq (by rw [hlen]) ?_)
      · conv => whnf
        exact trivial
      · refine Ent.of_le ⟨?_, fun w hw => trivial⟩
        rw [htk]
        exact List.Sublist.refl _
  · conv => whnf
    have hie : i = p.length := by
      have h := hlt
      simp [iLt_eq, hsz] at h
      omega
    have hfin : m = splitOn (p.drop 1) := by
      rw [← hfold, hie]
      simp
    have hm1 : m.length ≤ 200 := by omega
    refine XStop.loop tabOk (ι := Nat) ([6] ++ List.range' 49 12) (fun x => x ≤ m.length ∧ (m.take x).all vname = true)
      (fun x => [(6, .v (.int .i64 (x : Int)))]) (fun _ => []) (fun x => ⟨fun w => True, orow (some ⟨b, 0, none⟩) C⟩)
      (fun x => m.length - x) 0 ⟨Nat.zero_le _, rfl⟩ ?_ rfl (Ent.refl _) fun j hj => ?_
    · conv => whnf
      repeat (first | exact FLe.nil | refine FLe.any ?_ | refine FLe.cons ?_)
    obtain ⟨hj, hall⟩ := hj
    conv => whnf
    refine XIf.split (fun hlt2 => ?_) (fun hlt2 => ?_)
    · conv => whnf
      have hlt2' : j < m.length := by
        have h := hlt2
        simp [iLt_eq] at h
        omega
      refine XVal.of_read (XRead.index tabOk (t := 51) rfl rfl rfl (by omega) (by omega) (fun h => by cases h) fun ad had => ?_)
      cases had
      conv => whnf
      refine XVal.of_read (XRead.load tabOk (t := 9) rfl rfl (ad := ⟨b, 0, none⟩) (k := j) (L := m.map strV) (v := strV m[j]) (((Sees.row (by simp [orow])).take (m.length * 1)).eq (own_take hO)) (by simp) (by simp [hlt2']) ?_)
      conv => whnf
      refine XCall.val (validR_spec m[j] (by have := hmx _ (List.getElem_mem hlt2'); omega)) (fun w hw => trivial) (fun v D hv => ?_)
      generalize hvb : vname m[j] = vb at hv
      subst hv
      conv => whnf
      cases vb
      · conv => whnf
        repeat' (first
          | (refine XIf.yes rfl ?_; conv => whnf))
        refine ⟨⟨fun w => StrAt w Hd.nil [], []⟩, (Ent.of_le ⟨List.nil_sublist _, fun w hw => trivial⟩ : Ent _ ⟨fun w => True, []⟩).trans (Ent.imp fun w _ => RowAt.nilA), ?_⟩
        have : splitR p = ([], 15) := by
          rw [hR, if_neg]
          intro h
          rw [← hfin, List.all_eq_true] at h
          have := h _ (List.getElem_mem hlt2')
          rw [hvb] at this
          cases this
        rw [this]
        exact ⟨Hd.nil, rfl, Hd.nil_ok, rfl⟩
      · conv => whnf
        repeat' (first
          | (refine XIf.no rfl ?_; conv => whnf))
        refine ⟨j + 1, ⟨⟨hlt2', ?_⟩, by dsimp only; omega⟩, ?_, ?_, Ent.refl _⟩
        · rw [List.take_succ_eq_append_getElem hlt2', List.all_append, hall]
          simp [hvb]
        · conv => whnf
          refine ⟨?_, rfl⟩
          repeat (first | exact FLe.nil | refine FLe.any ?_ | refine FLe.cons ?_ | refine FLe.eq (by rw [wrap_i64 (by omega)]; rfl) ?_)
        · conv => whnf
          exact trivial
    · conv => whnf
      have hje : j = m.length := by
        have h := hlt2
        simp [iLt_eq] at h
        omega
      subst hje
      rw [List.take_length] at hall
      have hS : splitR p = (m, 0) := by
        rw [hR, if_pos (by rw [← hfin]; exact hall), ← hfin]
      rw [hS]
      exact ⟨_, (Own.gives hO).trans (Ent.imp fun w h => h.2), ⟨some ⟨b, 0, none⟩, c⟩, rfl, ⟨fun h => (by cases h), hO.fit⟩, rfl⟩

end Go.Proofs.YtfeoedkmndkbjaaGreatDoor
namespace Go.Proofs.YtfeoedkmndkbjaaGreatDoor
open Go Go.Sx
set_option maxRecDepth 100000
set_option maxHeartbeats 4000000
set_option linter.unusedVariables false
set_option linter.unusedSimpArgs false

theorem same_spec (h k : Hd) (l : List (List UInt8)) (hh : h.Ok l.length) (hk : k.Ok l.length) (hl : l.length ≤ 1000000) :
    PureSpec Tryz.prog 19 [h.v l.length, k.v l.length] (fun w => StrAt w h l ∧ StrAt w k l) (fun v F => v = .bool true) := by
  refine PureSpec.of_xc tabOk Tryz.func19 rfl (by decide) (n := Tryz.f19.ntmps - 2) rfl rfl fun w0 av => ?_
  conv => whnf
  refine XIf.no (by simp [iNe_eq]) ?_
  conv => whnf
  refine XStop.loop tabOk (ι := Nat) ([5] ++ List.range' 11 15) (fun x => x ≤ l.length)
    (fun x => [(5, .v (.int .i64 (x : Int)))]) (fun _ => []) (fun _ => ⟨fun w => StrAt w h l ∧ StrAt w k l, []⟩)
    (fun x => l.length - x) 0 (Nat.zero_le _) ?_ rfl (Ent.refl _) fun i hi => ?_
  · conv => whnf
    repeat (first | exact FLe.nil | refine FLe.any ?_ | refine FLe.cons ?_)
  conv => whnf
  refine XIf.split (fun hlt => ?_) (fun hlt => ?_)
  · conv => whnf
    have hlt' : i < l.length := by
      have h := hlt
      simp [iLt_eq] at h
      omega
    refine XStop.draw tabOk mixed rfl rfl ?_
    conv => whnf
    repeat' (first
      | (refine And.intro ?_ ?_ <;> conv => whnf)
      | (refine XHeld.same rfl ?_; conv => whnf)
      | (refine XHeld.row rfl ?_; conv => whnf)
      | (refine XHeld.call rfl ?_; conv => whnf)
      | (refine XKeep.of ?_; conv => whnf)
      | (refine XSame.of ?_; conv => whnf)
      | (refine XRead.index tabOk (t := 51) rfl rfl rfl (by omega) (by omega) hh.nil fun ad1 had1 => ?_; conv => whnf)
      | (refine XRead.index tabOk (t := 51) rfl rfl rfl (by omega) (by omega) hk.nil fun ad2 had2 => ?_; conv => whnf)
      | (refine XRead.load tabOk (t := 9) rfl rfl (ad := ad1) (k := i * 1) (L := l.map strV) (v := strV l[i]) (fun w hst => had1 ▸ hst.now.1) rfl (by simp [hlt']) ?_; conv => whnf)
      | (refine XRead.load tabOk (t := 9) rfl rfl (ad := ad2) (k := i * 1) (L := l.map strV) (v := strV l[i]) (fun w hst => had2 ▸ hst.now.2) rfl (by simp [hlt']) ?_; conv => whnf)
      | (refine XRead.strNe (l := l[i]) (m := l[i]) ?_; conv => whnf)
      | (refine XHeld.mk ?_ ?_; (focus (first | exact Ent.refl _ | exact Ent.left _ _ | exact Ent.of_le ⟨List.sublist_append_left _ _, fun w h => h⟩ | exact Ent.of_le ⟨List.Sublist.refl _, fun w h => h.1⟩)); conv => whnf))
    refine XIf.no (by simp) ?_
    conv => whnf
    refine ⟨i + 1, ⟨hlt', by dsimp only; omega⟩, ?_, ?_, Ent.refl _⟩
    · conv => whnf
      refine ⟨?_, rfl⟩
      repeat (first | exact FLe.nil | refine FLe.any ?_ | refine FLe.cons ?_ | refine FLe.eq (by rw [wrap_i64 (by omega)]; rfl) ?_)
    · conv => whnf
      exact trivial
  · conv => whnf
    exact ⟨_, Ent.refl _, rfl⟩

theorem splitR_small (p : List UInt8) (hp : p.length ≤ 200) : (splitR p).1.length ≤ 1000000 := by
  unfold splitR
  split
  · split
    · simp
    · split
      · simp only [splitOn_len]
        have h1 : (p.drop 1).count 47 ≤ (p.drop 1).length := List.count_le_length
        have h2 : (p.drop 1).length ≤ 200 := by simp; omega
        omega
      · simp
  · simp

end Go.Proofs.YtfeoedkmndkbjaaGreatDoor
namespace Go.Proofs.YtfeoedkmndkbjaaGreatDoor
open Go Go.Sx
set_option maxRecDepth 100000
set_option maxHeartbeats 4000000
set_option linter.unusedVariables false
set_option linter.unusedSimpArgs false

/-- An entry: a name and a node. -/
abbrev En := List UInt8 × Nat

def enC (e : En) : List Value := [strV e.1, intV e.2]

theorem list2 {α β : Type} {g : α → β} {l : List α} {a b : β} (h : l.map g = [a, b]) : ∃ x y, l = [x, y] ∧ g x = a ∧ g y = b := by
  match l, h with
  | [x, y], h =>
    simp at h
    exact ⟨x, y, rfl, h.1, h.2⟩

theorem en_eq (x y : En) (w : World) : (Op.equalIn 10000 132 (.agg ⟨enC x⟩) (.agg ⟨enC y⟩)).run Tryz.prog w = .ok (decide (x = y)) w := by
  have hS : Tryz.prog.underlying 132 = some (.struct (Tryz.prog.fieldsOf 132)) := by kernel_rfl
  have hp : Tryz.prog.stoodInHeld 132 = false := by kernel_rfl
  have hf : (Tryz.prog.fieldsOf 132).toList.map fld = [("Name", 9, 0), ("Node", 3, 1)] := by kernel_rfl
  have h3 : Tryz.prog.underlying 3 = some (.int .i64) := by kernel_rfl
  have h9 : Tryz.prog.underlying 9 = some .string := by kernel_rfl
  obtain ⟨p, q, hl, hx, hy⟩ : ∃ p q, (Tryz.prog.fieldsOf 132).toList = [p, q] ∧ fld p = ("Name", 9, 0) ∧ fld q = ("Node", 3, 1) := by
    exact list2 hf
  simp only [fld, Prod.mk.injEq] at hx hy
  obtain ⟨hx1, hx2, hx3⟩ := hx
  obtain ⟨hy1, hy2, hy3⟩ := hy
  rw [show (10000 : Nat) = 9999 + 1 from rfl, run_equalIn_struct w 9999 132 _ _ hS hp, hl]
  simp only [Op.eqFields, hx1, hx2, hx3, hy1, hy2, hy3]
  have hq : (Op.equalIn 9999 3 (intV x.2) (intV y.2)).run Tryz.prog w = .ok (decide (x.2 = y.2)) w := by
    have h := run_equalIn_int (P := Tryz.prog) w 9998 3 .i64 .i64 (x.2 : Int) (y.2 : Int) h3
    have e : ((x.2 : Int) == (y.2 : Int)) = decide (x.2 = y.2) := by
      rw [Bool.eq_iff_iff]
      simp only [beq_iff_eq, decide_eq_true_eq]
      omega
    rw [e] at h
    exact h
  have hs : (Op.equalIn 9999 9 (strV x.1) (strV y.1)).run Tryz.prog w = .ok (decide (x.1 = y.1)) w := by
    have h := run_equalIn_string (P := Tryz.prog) w 9998 9 ⟨⟨x.1⟩⟩ ⟨⟨y.1⟩⟩ h9
    rw [toList_mk, toList_mk] at h
    have e : (x.1 == y.1) = decide (x.1 = y.1) := by
      rw [Bool.eq_iff_iff]
      simp
    rw [e] at h
    exact h
  rw [if_pos (by decide), run_bind_ok (run_part1 h9 rfl (v := strV x.1) rfl w), run_bind_ok (run_part1 h9 rfl (v := strV y.1) rfl w), run_bind_ok hs]
  have hxy : decide (x = y) = (decide (x.1 = y.1) && decide (x.2 = y.2)) := by
    rw [Bool.eq_iff_iff]
    simp [Prod.ext_iff]
  rw [hxy]
  cases decide (x.1 = y.1) with
  | false => rfl
  | true =>
    simp only [Bool.not_true, Bool.false_eq_true, if_false, Bool.true_and]
    rw [if_pos (by decide), run_bind_ok (run_part1 h3 rfl (v := intV x.2) rfl w), run_bind_ok (run_part1 h3 rfl (v := intV y.2) rfl w), run_bind_ok hq]
    cases decide (x.2 = y.2) <;> rfl

section
variable {w0 : World} {R : Nat → Nat → Prop} {av : Nat → Prop} {bs : List (Nat × Nat)} {cs : List (List Value)} {F : Fx}
theorem XRead.neEn {x y : Operand} {a b : En} {K : Value → Prop} (h : K (.bool (!decide (a = b)))) :
    XRead Tryz.prog w0 R av (do eqGuard .neq 132 x y (.agg ⟨enC a⟩) (.agg ⟨enC b⟩); binOp .neq 132 (.agg ⟨enC a⟩) (.agg ⟨enC b⟩)) bs cs F K := by
  refine (XRead_iff _ _ _ _).2 ⟨_, fun w _ => ?_, h⟩
  have hm : Tryz.prog.eqGuardType Tryz.prog.depth 132 = false := by kernel_rfl
  rw [run_bind_ok (run_eqGuard_agg w .neq 132 x y _ _ hm), run_neq_struct, en_eq]
  rfl
end

/-- How many bytes of a name there are. -/
def nlen (c : List UInt8) (o : Nat) : Nat → Nat
  | 0 => 0
  | m + 1 => if byt c o = 0 then 0 else nlen c (o + 1) m + 1

theorem nlen_le (c : List UInt8) : ∀ (m o : Nat), nlen c o m ≤ m
  | 0, _ => Nat.le_refl _
  | m + 1, o => by
    unfold nlen
    split
    · omega
    · have := nlen_le c m (o + 1)
      omega

theorem nlen_eq (c : List UInt8) : ∀ (m o k : Nat), k ≤ m → (∀ j, j < k → byt c (o + j) ≠ 0) → (k = m ∨ byt c (o + k) = 0) → nlen c o m = k
  | 0, o, k, h1, _, _ => by
    have : k = 0 := by omega
    subst this
    rfl
  | m + 1, o, 0, h1, h2, h3 => by
    rcases h3 with h3 | h3
    · omega
    · have h3 : byt c o = 0 := h3
      unfold nlen
      rw [if_pos h3]
  | m + 1, o, k + 1, h1, h2, h3 => by
    have h20 : byt c o ≠ 0 := h2 0 (by omega)
    unfold nlen
    rw [if_neg h20, nlen_eq c m (o + 1) k (by omega) (fun j hj => by have := h2 (j + 1) (by omega); rwa [show o + 1 + j = o + (j + 1) by omega]) (by
      rcases h3 with h3 | h3
      · exact .inl (by omega)
      · exact .inr (by rwa [show o + 1 + k = o + (k + 1) by omega]))]

def enR (c : List UInt8) (i : Nat) : En := (cut c (16 * i) (nlen c (16 * i) 14), byt c (16 * i + 14))

/-- What the reference asks of an entry. -/
structure EnOk (c : List UInt8) (i : Nat) : Prop where
  tail : ∀ k, k < 14 → nlen c (16 * i) 14 ≤ k → byt c (16 * i + k) = 0
  pad : byt c (16 * i + 15) = 0
  name : enR c i = ([], 0) ∨ (vname (enR c i).1 = true ∧ (enR c i).2 ≠ 0)
  only : (enR c i).1 = [] ∨ ∀ k, k < i → (enR c k).1 ≠ (enR c i).1

def ens (c : List UInt8) (n : Nat) : List En := (List.range n).map (enR c)

def enCs (l : List En) : List Value := l.flatMap enC

theorem ens_next (c : List UInt8) (n : Nat) : ens c (n + 1) = ens c n ++ [enR c n] := by simp [ens, List.range_succ]

theorem enCs_snoc (l : List En) (e : En) : enCs (l ++ [e]) = enCs l ++ enC e := by simp [enCs]

theorem enCs_len (l : List En) : (enCs l).length = l.length * 2 := by
  induction l with
  | nil => rfl
  | cons e l ih => simp [enCs, enC] at ih ⊢; omega

theorem enCs_get : ∀ {l : List En} {i : Nat} (h : i < l.length), (enCs l)[2 * i]? = some (strV l[i].1) ∧ (enCs l)[2 * i + 1]? = some (intV l[i].2)
  | [], i, h => by simp at h
  | e :: l, 0, h => ⟨rfl, rfl⟩
  | e :: l, i + 1, h => by
    have := enCs_get (l := l) (i := i) (by simpa using h)
    have e1 : enCs (e :: l) = strV e.1 :: intV e.2 :: enCs l := rfl
    rw [e1, show 2 * (i + 1) = 2 * i + 1 + 1 by omega]
    simpa using this

/-- Entries (or nil) and whether they are as described. -/
def RelEn (l : List En) (ok : Bool) (v : Value) (F : Fx) : Prop := ∃ h : Hd, v = .tuple #[h.v l.length, .bool ok] ∧ h.Ok l.length ∧ F = ⟨fun w => RowAt w h.a (enCs l), []⟩

def AllOk (c : List UInt8) : Prop := ∀ i, i < 8 → EnOk c i

noncomputable instance (c : List UInt8) : Decidable (AllOk c) := Classical.propDecidable _

noncomputable def entsOk (c : List UInt8) : Bool := decide (AllOk c)

noncomputable def entsR (c : List UInt8) : List En := if entsOk c then ens c 8 else []

/-- The same, the entries a row of the caller's own. -/
def RelEnO (l : List En) (ok : Bool) (v : Value) (F : Fx) : Prop := ∃ a cap C, v = .tuple #[.slice a l.length cap, .bool ok] ∧ Own 2 l.length a cap C (enCs l) ∧ F = ⟨fun _ => True, orow a C⟩

theorem entsOk_iff {c : List UInt8} : entsOk c = true ↔ ∀ i, i < 8 → EnOk c i := by
  unfold entsOk
  exact decide_eq_true_iff (p := AllOk c)

theorem relEn_nil {c : List UInt8} {D : World → Prop} {rs : List (Nat × Row)} {i : Nat} (hi : i < 8) (h : ¬ EnOk c i) : ∃ F', Ent ⟨D, rs⟩ F' ∧ RelEnO (entsR c) (entsOk c) (.tuple #[.slice none 0 0, .bool false]) F' := by
  have h1 : entsOk c = false := by
    rw [Bool.eq_false_iff]
    exact fun h2 => h (entsOk_iff.1 h2 i hi)
  have h2 : entsR c = [] := by
    unfold entsR
    rw [h1]
    rfl
  rw [h1, h2]
  exact ⟨⟨fun _ => True, []⟩, Ent.bare fun w _ => trivial, none, 0, [], rfl, Own.nil 2, rfl⟩

theorem entriesO_spec (c : List UInt8) (h : Hd) (hh : h.Ok c.length) (hc : c.length = 128) : PureSpec Tryz.prog 104 [h.v c.length] (fun w => By w h c) (RelEnO (entsR c) (entsOk c)) := by
  have hcap := hh.cap
  refine PureSpec.of_xc tabOk Tryz.func104 rfl (by decide) (n := Tryz.f104.ntmps - 1) rfl rfl fun w0 av => ?_
  conv => whnf
  refine XStop.loop tabOk (ι := Nat × Option Addr × Nat × List Value) ([4, 5, 6, 7, 8, 9, 10] ++ List.range' 11 83) (fun x => x.1 ≤ 8 ∧ Own 2 x.1 x.2.1 x.2.2.1 x.2.2.2 (enCs (ens c x.1)) ∧ ∀ j, j < x.1 → EnOk c j)
    (fun x => [(4, .v (.slice x.2.1 x.1 x.2.2.1)), (5, .v (.int .i64 (x.1 : Int)))]) (fun _ => []) (fun x => ⟨fun w => By w h c, orow x.2.1 x.2.2.2⟩)
    (fun x => 8 - x.1) (0, none, 0, []) ⟨Nat.zero_le _, Own.nil 2, fun j hj => by omega⟩ ?_ rfl (Ent.of_le ⟨by simp [orow], fun w hw => hw⟩) fun x hx => ?_
  · conv => whnf
    repeat (first | exact FLe.nil | refine FLe.any ?_ | refine FLe.cons ?_)
  obtain ⟨i, a, cap, C⟩ := x
  obtain ⟨hi, hO, hall⟩ := hx
  dsimp only at hi hO hall ⊢
  conv => whnf
  refine XIf.split (fun hlt => ?_) (fun hlt => ?_)
  · conv => whnf
    have hlt' : i < 8 := by
      simp only [iLt_eq, decide_eq_true_eq] at hlt
      omega
    have em : IntKind.i64.wrap (16 * (i : Int)) = ((16 * i : Nat) : Int) := by
      rw [wrap_i64 (by omega)]
      omega
    refine XVal.of_read (XRead.sub2 tabOk (t := 23) rfl rfl rfl rfl (16 * i) 16 em (by show IntKind.i64.wrap (IntKind.i64.wrap (16 * (i : Int)) + 16) = _; rw [em, wrap_i64 (by omega)]; omega) (by omega) ?_)
    have hok : (Hd.sub h (16 * i)).Ok 16 := Hd.sub_ok hh (by omega)
    have hby : ∀ w, By w h c → By w (Hd.sub h (16 * i)) (cut c (16 * i) 16) := fun w hw => By.sub hw (by omega)
    have hbl : (cut c (16 * i) 16).length = 16 := cut_len (by omega)
    have hbt : ∀ k, k < 16 → byt (cut c (16 * i) 16) k = byt c (16 * i + k) := fun k hk => byt_cut (by omega) hk
    conv => whnf
    refine XStop.loop tabOk (ι := Nat) ([7] ++ List.range' 22 11) (fun x => x ≤ 14 ∧ ∀ j, j < x → byt c (16 * i + j) ≠ 0)
      (fun x => [(7, .v (.int .i64 (x : Int)))]) (fun _ => []) (fun x => ⟨fun w => By w h c, orow a C⟩)
      (fun x => 14 - x) 0 ⟨Nat.zero_le _, fun j hj => by omega⟩ ?_ rfl (Ent.refl _) fun n hn => ?_
    · conv => whnf
      repeat (first | exact FLe.nil | refine FLe.any ?_ | refine FLe.cons ?_)
    obtain ⟨hn, hnz⟩ := hn
    conv => whnf
    repeat (refine XSame.of ?_; conv => whnf)
    generalize hlt2 : iLt (n : Int) 14 = cl
    have hgo : ∀ {K : Prop}, K → K := id
    cases cl
    case' false =>
      have hnl : nlen c (16 * i) 14 = n := nlen_eq c 14 (16 * i) n hn hnz (.inl (by
        simp only [iLt_eq, decide_eq_false_iff_not] at hlt2
        omega))
      conv => whnf
      repeat (refine XSame.of ?_; conv => whnf)
      repeat' (first
        | (refine XIf.no rfl ?_; conv => whnf))
    case' true =>
      have hn14 : n < 14 := by
        simp only [iLt_eq, decide_eq_true_eq] at hlt2
        omega
      conv => whnf
      refine XVal.of_read (XRead.byteAt tabOk (t := 23) rfl rfl rfl rfl n rfl (by omega) hok fun ad had => ?_)
      conv => whnf
      refine XVal.of_read (XRead.byteLd' tabOk (t := 5) rfl rfl had (.fact fun w h => hby w h) rfl (by omega) ?_)
      rw [hbt n (by omega)]
      conv => whnf
      repeat (refine XSame.of ?_; conv => whnf)
      generalize hb0 : iNe (byt c (16 * i + n) : Int) 0 = cb
      cases cb
      case' true =>
        conv => whnf
        repeat (refine XSame.of ?_; conv => whnf)
        repeat' (first
          | (refine XIf.yes rfl ?_; conv => whnf))
        have hb0' : byt c (16 * i + n) ≠ 0 := by
          simp [iNe_eq] at hb0
          omega
        refine ⟨n + 1, ⟨⟨by omega, fun j hj => ?_⟩, by dsimp only; omega⟩, ?_, ?_, Ent.refl _⟩
        · rcases Nat.lt_or_eq_of_le (Nat.lt_succ_iff.1 hj) with h5 | h5
          · exact hnz j h5
          · rw [h5]; exact hb0'
        · conv => whnf
          refine ⟨?_, rfl⟩
          repeat (first | exact FLe.nil | refine FLe.any ?_ | refine FLe.cons ?_ | refine FLe.eq (by rw [wrap_i64 (by omega)]; rfl) ?_)
        · conv => whnf
          exact trivial
      have hnl : nlen c (16 * i) 14 = n := nlen_eq c 14 (16 * i) n hn hnz (.inr (by
        simp [iNe_eq] at hb0
        omega))
      conv => whnf
      repeat (refine XSame.of ?_; conv => whnf)
      repeat' (first
        | (refine XIf.no rfl ?_; conv => whnf))
    all_goals
      have hct : ((cut c (16 * i) 16).take n) = cut c (16 * i) n := by
        unfold cut
        rw [List.take_take, Nat.min_eq_left (by omega)]
      have hnm : (cut c (16 * i) n).length = n := cut_len (by omega)
      have hE : enR c i = (cut c (16 * i) n, byt c (16 * i + 14)) := by
        unfold enR
        rw [hnl]
      have h14 := hbt 14 (by omega)
      refine XStop.draw tabOk mixed rfl rfl ?_
      conv => whnf
      repeat' (first
        | (refine And.intro ?_ ?_ <;> conv => whnf)
        | (refine XHeld.same rfl ?_; conv => whnf)
        | (refine XHeld.row rfl ?_; conv => whnf)
        | (refine XHeld.call rfl ?_; conv => whnf)
        | (refine XKeep.of ?_; conv => whnf)
        | (refine XSame.of ?_; conv => whnf)
        | (refine XRead.subTo tabOk (t := 23) rfl rfl rfl n rfl (Nat.le_trans (by omega) hok.cap) ?_; conv => whnf)
        | (refine XRead.bytes tabOk (t := 23) (u := 9) rfl rfl rfl rfl rfl rfl (l := cut c (16 * i) n) (.fact fun w hw => by have h2 := RowAt.take (hby w hw) n; rw [← List.map_take, hct] at h2; exact h2) hnm.symm ?_; conv => whnf)
        | (refine XRead.byteAt tabOk (t := 23) rfl rfl rfl rfl 14 rfl (by omega) hok fun ad had => ?_; conv => whnf)
        | (refine XRead.byteLd' tabOk (t := 5) rfl rfl had (.fact fun w h => hby w h) rfl (by omega) ?_; conv => whnf)
        | (intro b0; conv => whnf)
        | (refine XHeld.mk ?_ ?_; (focus (first | exact Ent.refl _ | exact Ent.left _ _ | exact Ent.of_le ⟨List.sublist_append_left _ _, fun w h => h⟩ | exact Ent.of_le ⟨List.Sublist.refl _, fun w h => h.1⟩)); conv => whnf))
      rw [h14, wrap_byt]
      have hnd2 := hbt 15 (by omega)
      generalize cut c (16 * i) n = nm at *
      generalize byt c (16 * i + 14) = nd at *
      have hbad : ∀ (D : World → Prop) (rs : List (Nat × Row)), ¬ EnOk c i → ∃ F', Ent ⟨D, rs⟩ F' ∧ RelEnO (entsR c) (entsOk c) (.tuple #[.slice none 0 0, .bool false]) F' := fun D rs hn => relEn_nil hlt' hn
      refine XStop.loop tabOk (ι := Nat) ([9] ++ List.range' 43 9) (fun x => (n ≤ x ∧ x ≤ 14) ∧ ∀ j, n ≤ j → j < x → byt c (16 * i + j) = 0)
        (fun x => [(9, .v (.int .i64 (x : Int)))]) (fun _ => [[strV nm, intV nd]]) (fun x => ⟨fun w => By w h c, orow a C⟩)
        (fun x => 14 - x) n ⟨⟨Nat.le_refl _, hn⟩, fun j h1 h2 => by omega⟩ ?_ rfl (Ent.refl _) fun m hm => ?_
      · conv => whnf
        repeat (first | exact FLe.nil | refine FLe.any ?_ | refine FLe.cons ?_)
      obtain ⟨⟨hm1, hm2⟩, hmz⟩ := hm
      conv => whnf
      refine XIf.split (fun hlt3 => ?_) (fun hlt3 => ?_)
      · have hm14 : m < 14 := by
          simp only [iLt_eq, decide_eq_true_eq] at hlt3
          omega
        conv => whnf
        refine XVal.of_read (XRead.byteAt tabOk (t := 23) rfl rfl rfl rfl m rfl (by omega) hok fun ad had => ?_)
        conv => whnf
        refine XVal.of_read (XRead.byteLd' tabOk (t := 5) rfl rfl had (.fact fun w h => hby w h) rfl (by omega) ?_)
        rw [hbt m (by omega)]
        conv => whnf
        refine XIf.split (fun hb1 => ?_) (fun hb1 => ?_)
        · conv => whnf
          refine hbad _ _ fun he => ?_
          have := he.tail m hm14 (by omega)
          simp [iNe_eq, this] at hb1
        · have hb1' : byt c (16 * i + m) = 0 := by
            simp [iNe_eq] at hb1
            omega
          conv => whnf
          refine ⟨m + 1, ⟨⟨⟨by omega, by omega⟩, fun j h1 h2 => ?_⟩, by dsimp only; omega⟩, ?_, ?_, Ent.refl _⟩
          · rcases Nat.lt_or_eq_of_le (Nat.lt_succ_iff.1 h2) with h5 | h5
            · exact hmz j h1 h5
            · rw [h5]; exact hb1'
          · conv => whnf
            refine ⟨?_, rfl⟩
            repeat (first | exact FLe.nil | refine FLe.any ?_ | refine FLe.cons ?_ | refine FLe.eq (by rw [wrap_i64 (by omega)]; rfl) ?_)
          · conv => whnf
            exact ⟨⟨rfl, rfl⟩, trivial⟩
      have hm14 : m = 14 := by
        simp only [iLt_eq, decide_eq_false_iff_not] at hlt3
        omega
      subst hm14
      conv => whnf
      refine XVal.of_read (XRead.byteAt tabOk (t := 23) rfl rfl rfl rfl 15 rfl (by omega) hok fun ad had => ?_)
      conv => whnf
      refine XVal.of_read (XRead.byteLd' tabOk (t := 5) rfl rfl had (.fact fun w h => hby w h) rfl (by omega) ?_)
      rw [hnd2]
      conv => whnf
      repeat (refine XSame.of ?_; conv => whnf)
      generalize hp1 : iNe (byt c (16 * i + 15) : Int) 0 = cp
      cases cp
      rotate_left
      · conv => whnf
        repeat (refine XSame.of ?_; conv => whnf)
        repeat' (first
          | (refine XIf.yes rfl ?_; conv => whnf)
          | (refine XIf.no rfl ?_; conv => whnf))
        refine hbad _ _ fun he => ?_
        have := he.pad
        simp [iNe_eq, this] at hp1
      have hp1' : byt c (16 * i + 15) = 0 := by
        simp [iNe_eq] at hp1
        omega
      conv => whnf
      repeat (refine XSame.of ?_; conv => whnf)
      refine XVal.of_read (XRead.neEn (a := (nm, nd)) (b := ([], 0)) ?_)
      conv => whnf
      repeat (refine XSame.of ?_; conv => whnf)
      generalize hne : (!decide (((nm, nd) : En) = ([], 0))) = cn
      cases cn
      case' false =>
        have hname : enR c i = ([], 0) ∨ (vname (enR c i).1 = true ∧ (enR c i).2 ≠ 0) := by
          rw [hE]
          exact .inl (by simpa using hne)
        conv => whnf
        repeat (refine XSame.of ?_; conv => whnf)
      case' true =>
        have hne' : ¬ ((nm, nd) : En) = ([], 0) := by
          intro h
          rw [h] at hne
          simp at hne
        conv => whnf
        repeat (refine XSame.of ?_; conv => whnf)
        refine XCall.val (validR_spec nm (by omega)) (fun w hw => trivial) (fun v D hv => ?_)
        generalize hvn : vname nm = cv at hv
        subst hv
        cases cv
        case' false =>
          conv => whnf
          repeat (refine XSame.of ?_; conv => whnf)
          repeat' (first
            | (refine XIf.yes rfl ?_; conv => whnf)
            | (refine XIf.no rfl ?_; conv => whnf))
          refine hbad _ _ fun he => ?_
          have := he.name
          rw [hE] at this
          rcases this with h5 | h5
          · exact hne' h5
          · rw [hvn] at h5
            cases h5.1
        conv => whnf
        repeat (refine XSame.of ?_; conv => whnf)
        generalize hz0 : iEq (nd : Int) 0 = cz
        cases cz
        case' true =>
          conv => whnf
          repeat (refine XSame.of ?_; conv => whnf)
          repeat' (first
            | (refine XIf.yes rfl ?_; conv => whnf)
            | (refine XIf.no rfl ?_; conv => whnf))
          refine hbad _ _ fun he => ?_
          have := he.name
          rw [hE] at this
          rcases this with h5 | h5
          · exact hne' h5
          · simp [iEq_eq] at hz0
            omega
        have hname : enR c i = ([], 0) ∨ (vname (enR c i).1 = true ∧ (enR c i).2 ≠ 0) := by
          rw [hE]
          refine .inr ⟨hvn, ?_⟩
          simp [iEq_eq] at hz0
          omega
        conv => whnf
        repeat (refine XSame.of ?_; conv => whnf)
        repeat' (first
          | (refine XIf.no rfl ?_; conv => whnf)
          | (refine XIf.yes rfl ?_; conv => whnf))
      all_goals
        have hlen : (ens c i).length = i := by simp [ens]
        refine XStop.loop tabOk (ι := Nat) ([10] ++ List.range' 72 18) (fun x => x ≤ i ∧ ∀ j, j < x → nm = [] ∨ (enR c j).1 ≠ nm)
          (fun x => [(10, .v (.int .i64 (x : Int)))]) (fun _ => [[strV nm, intV nd]]) (fun x => ⟨fun w => By w h c, orow a C⟩)
          (fun x => i - x) 0 ⟨Nat.zero_le _, fun j h1 => by omega⟩ ?_ rfl (Ent.refl _) fun q hq => ?_
        · conv => whnf
          repeat (first | exact FLe.nil | refine FLe.any ?_ | refine FLe.cons ?_)
        obtain ⟨hq1, hq2⟩ := hq
        conv => whnf
        refine XIf.split (fun hlt4 => ?_) (fun hlt4 => ?_)
        · have hqi : q < i := by
            simp only [iLt_eq, decide_eq_true_eq] at hlt4
            omega
          have hgq : (ens c i)[q]'(by omega) = enR c q := by simp [ens]
          have hcell := (enCs_get (l := ens c i) (i := q) (by omega)).1
          rw [hgq] at hcell
          have hsee : Sees w0 (fun _ _ => False) av [] [] ⟨fun w => By w h c, orow a C⟩ a (enCs (ens c i)) := by
            have := Own.sees (w0 := w0) (R := fun _ _ => False) (av := av) (bs := []) (cs := []) (r1 := []) (r2 := []) (D := fun w => By w h c) hO
            simpa using this
          conv => whnf
          refine XStop.draw tabOk mixed rfl rfl ?_
          conv => whnf
          repeat' (first
            | (refine And.intro ?_ ?_ <;> conv => whnf)
            | (refine XHeld.same rfl ?_; conv => whnf)
            | (refine XHeld.row rfl ?_; conv => whnf)
            | (refine XHeld.call rfl ?_; conv => whnf)
            | (refine XKeep.of ?_; conv => whnf)
            | (refine XSame.of ?_; conv => whnf)
            | (refine XRead.strNe (l := nm) (m := []) ?_; conv => whnf)
            | (refine XIf.split (b := !(nm == [])) (fun hqa => ?_) (fun hqa => ?_) <;> conv => whnf)
            | (refine XRead.index tabOk (t := 127) rfl rfl rfl (by omega) (by omega) (fun ha => hO.none_nil ha) fun ad had => ?_; conv => whnf)
            | (refine XRead.loadF tabOk (t := 9) rfl rfl (ad := ad) (k := 2 * q) (L := enCs (ens c i)) (v := strV (enR c q).1) (by rw [← had]; exact hsee) (fun hs => by rw [Addr.addAdd hs]; congr 1; simp; try omega) hcell ?_; conv => whnf)
            | (refine XRead.strEq (l := (enR c q).1) (m := nm) ?_; conv => whnf)
            | (refine XHeld.mk ?_ ?_; (focus (first | exact Ent.refl _ | exact Ent.left _ _ | exact Ent.of_le ⟨List.sublist_append_left _ _, fun w h => h⟩ | exact Ent.of_le ⟨List.Sublist.refl _, fun w h => h.1⟩)); conv => whnf))
          all_goals first
            | (refine ⟨q + 1, ⟨⟨hqi, fun j hj => .inl ?_⟩, by dsimp only; omega⟩, ?_, ?_, Ent.refl _⟩
               · simpa using hqa
               · conv => whnf
                 refine ⟨?_, rfl⟩
                 repeat (first | exact FLe.nil | refine FLe.any ?_ | refine FLe.cons ?_ | refine FLe.eq (by rw [wrap_i64 (by omega)]; rfl) ?_)
               · conv => whnf
                 exact ⟨⟨rfl, rfl⟩, trivial⟩
              )
            | (refine XIf.split (fun hqb => ?_) (fun hqb => ?_)
               · conv => whnf
                 refine hbad _ _ fun he => ?_
                 have := he.only
                 rw [hE] at this
                 rcases this with h5 | h5
                 · have h5 : nm = [] := h5
                   rw [h5] at hqa
                   cases hqa
                 · have := h5 q hqi
                   simp at hqb
                   exact this hqb
               · conv => whnf
                 refine ⟨q + 1, ⟨⟨hqi, fun j hj => ?_⟩, by dsimp only; omega⟩, ?_, ?_, Ent.refl _⟩
                 · rcases Nat.lt_or_eq_of_le (Nat.lt_succ_iff.1 hj) with h5 | h5
                   · exact hq2 j h5
                   · rw [h5]
                     refine .inr fun h6 => ?_
                     simp [h6] at hqb
                 · conv => whnf
                   refine ⟨?_, rfl⟩
                   repeat (first | exact FLe.nil | refine FLe.any ?_ | refine FLe.cons ?_ | refine FLe.eq (by rw [wrap_i64 (by omega)]; rfl) ?_)
                 · conv => whnf
                   exact ⟨⟨rfl, rfl⟩, trivial⟩
              )
        · have hqi : q = i := by
            simp only [iLt_eq, decide_eq_false_iff_not] at hlt4
            omega
          subst hqi
          have hOk : EnOk c q := ⟨fun k h1 h2 => hmz k (by omega) h1, hp1', hname, by
            rw [hE]
            by_cases h5 : nm = []
            · exact .inl h5
            · exact .inr fun j hj => (hq2 j hj).resolve_left h5⟩
          conv => whnf
          refine XVal.build tabOk (t := 127) rfl rfl rfl [.agg ⟨[strV nm, intV nd]⟩] rfl rfl (by simp [Value.cells]) (by decide) fun b1 => ?_
          conv => whnf
          refine XVal.ent (F' := ⟨fun w => By w h c, [] ++ orow a C ++ [(b1, Row.c (enC (nm, nd)))]⟩) (Ent.of_le ⟨by simp [Value.cells, enC], fun w hw => hw⟩) ?_
          refine XVal.append tabOk (t := 127) (xt := 127) rfl rfl rfl rfl rfl rfl (r1 := []) (r2 := [(b1, Row.c (enC (nm, nd)))]) (M := enC (nm, nd)) hO (Sees.row (by simp)) rfl (by simp [enC, strV, intV, oneCell]) (by omega) (by simp; omega) fun a' c' C' hO' => ?_
          conv => whnf
          refine ⟨(q + 1, a', c', C'), ⟨⟨hlt', ?_, fun j hj => ?_⟩, by dsimp only; omega⟩, ?_, ?_, ?_⟩
          · dsimp only
            rw [ens_next, enCs_snoc, hE]
            exact hO'
          · rcases Nat.lt_or_eq_of_le (Nat.lt_succ_iff.1 hj) with h5 | h5
            · exact hall j h5
            · rw [h5]; exact hOk
          · conv => whnf
            refine ⟨?_, rfl⟩
            repeat (first | exact FLe.nil | refine FLe.any ?_ | refine FLe.cons ?_ | refine FLe.eq (by rw [wrap_i64 (by omega)]; rfl) ?_)
          · conv => whnf
            exact trivial
          · refine Ent.of_le ⟨by simp, fun w hw => hw⟩
  · conv => whnf
    have hie : i = 8 := by
      simp only [iLt_eq, decide_eq_false_iff_not] at hlt
      omega
    subst hie
    have h1 : entsOk c = true := entsOk_iff.2 hall
    have h2 : entsR c = ens c 8 := by
      unfold entsR
      rw [h1]
      rfl
    rw [h1, h2]
    have hel : (ens c 8).length = 8 := by simp [ens]
    refine ⟨⟨fun _ => True, orow a C⟩, Ent.imp fun _ _ => trivial, a, cap, C, ?_, by rw [hel]; exact hO, rfl⟩
    rw [hel]

theorem entries_spec (c : List UInt8) (h : Hd) (hh : h.Ok c.length) (hc : c.length = 128) : PureSpec Tryz.prog 104 [h.v c.length] (fun w => By w h c) (RelEn (entsR c) (entsOk c)) :=
  (entriesO_spec c h hh hc).weaken fun v F ⟨a, cap, C, hv, hO, hF⟩ => by
    subst hv hF
    exact ⟨⟨fun w => RowAt w a (enCs (entsR c)), []⟩, (Own.gives hO).trans (Ent.imp fun w h => h.2), ⟨a, cap⟩, rfl, ⟨fun ha => hO.none_nil ha, hO.fit⟩, rfl⟩

end Go.Proofs.YtfeoedkmndkbjaaGreatDoor
