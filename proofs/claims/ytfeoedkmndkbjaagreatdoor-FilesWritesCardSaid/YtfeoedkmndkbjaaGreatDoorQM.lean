/- Parts of the proof: NbN, NbO, NbP, NbQ, NbR, NbS, NvC, NvD, NvE, NvF, NvG, NvH, NvI, NvJ, NvK, NvL, NvM, NvN, NvO, NvP, NvQ, NvR, NvS. -/
import Derived.Test.YtfeoedkmndkbjaaGreatDoorQK
import Derived.Test.YtfeoedkmndkbjaaGreatDoorQL
import Derived.Test.YtfeoedkmndkbjaaGreatDoorQI
import Derived.Test.YtfeoedkmndkbjaaGreatDoorQD
namespace Go.Proofs.YtfeoedkmndkbjaaGreatDoor
open Go Go.Sx
set_option maxRecDepth 100000
set_option maxHeartbeats 4000000
set_option linter.unusedVariables false
set_option linter.unusedSimpArgs false

/-- Where a name stands. -/
def fidx (l : List En) (s : List UInt8) : Option Nat := l.findIdx? fun e => e.1 == s

def fint : Option Nat → Int
  | none => -1
  | some i => i

theorem find38_spec (l : List En) (h : Hd) (hh : h.Ok l.length) (hl : l.length ≤ 1000000) (s : List UInt8) : PureSpec Tryz.prog 79 [h.v l.length, strV s] (fun w => RowAt w h.a (enCs l)) (fun v F => v = .int .i64 (fint (fidx l s))) := by
  refine PureSpec.of_xc tabOk Tryz.func79 rfl (by decide) (n := Tryz.f79.ntmps - 2) rfl rfl fun w0 av => ?_
  conv => whnf
  refine XStop.loop tabOk (ι := Nat) ([5] ++ List.range' 6 14) (fun x => x ≤ l.length ∧ ∀ j (hj : j < l.length), j < x → l[j].1 ≠ s)
    (fun x => [(5, .v (.int .i64 (x : Int)))]) (fun _ => []) (fun _ => ⟨fun w => RowAt w h.a (enCs l), []⟩)
    (fun x => l.length - x) 0 ⟨Nat.zero_le _, fun j hj h => by omega⟩ ?_ rfl (Ent.refl _) fun i hi => ?_
  · conv => whnf
    repeat (first | exact FLe.nil | refine FLe.any ?_ | refine FLe.cons ?_)
  obtain ⟨hi, hall⟩ := hi
  conv => whnf
  refine XIf.split (fun hlt => ?_) (fun hlt => ?_)
  · have hlt' : i < l.length := by
      simp only [iLt_eq, decide_eq_true_eq] at hlt
      omega
    conv => whnf
    refine XVal.of_read (XRead.index tabOk (t := 127) rfl rfl rfl (by omega) (by omega) hh.nil fun ad had => ?_)
    conv => whnf
    refine XVal.of_read (XRead.loadF tabOk (t := 9) rfl rfl (ad := ad) (k := 2 * i) (L := enCs l) (v := strV l[i].1) (.fact fun w hw => had ▸ hw) (fun hs => by rw [Addr.addAdd hs]; congr 1; simp; try omega) (enCs_get hlt').1 ?_)
    conv => whnf
    refine XVal.of_read (XRead.strEq (l := l[i].1) (m := s) ?_)
    conv => whnf
    refine XIf.split (fun hq => ?_) (fun hq => ?_)
    · conv => whnf
      refine ⟨_, Ent.refl _, ?_⟩
      have : fidx l s = some i := by
        unfold fidx
        rw [List.findIdx?_eq_some_iff_getElem]
        exact ⟨hlt', hq, fun j hj => by simpa using hall j (by omega) hj⟩
      rw [this]
      rfl
    · conv => whnf
      refine ⟨i + 1, ⟨⟨hlt', fun j hj h => ?_⟩, by dsimp only; omega⟩, ?_, ?_, Ent.refl _⟩
      · rcases Nat.lt_or_eq_of_le (Nat.lt_succ_iff.1 h) with h5 | h5
        · exact hall j hj h5
        · subst h5
          simpa using hq
      · conv => whnf
        refine ⟨?_, rfl⟩
        repeat (first | exact FLe.nil | refine FLe.any ?_ | refine FLe.cons ?_ | refine FLe.eq (by rw [wrap_i64 (by omega)]; rfl) ?_)
      · conv => whnf
        exact trivial
  · have hie : i = l.length := by
      simp only [iLt_eq, decide_eq_false_iff_not] at hlt
      omega
    subst hie
    conv => whnf
    refine ⟨_, Ent.refl _, ?_⟩
    have : fidx l s = none := by
      unfold fidx
      rw [List.findIdx?_eq_none_iff]
      intro x hx
      obtain ⟨j, hj, rfl⟩ := List.getElem_of_mem hx
      simpa using hall j hj hj
    rw [this]
    rfl

/-- An entry's bytes. -/
def enB (e : En) : List UInt8 := bput (lay (List.replicate 16 0) 0 e.1) 14 (e.2 % 256)

theorem enB_len {e : En} (h : e.1.length ≤ 14) : (enB e).length = 16 := by
  unfold enB
  rw [bput_len, lay_len (by simp; omega)]
  simp

def encB (l : List En) : List UInt8 := l.flatMap enB

theorem encB_len : ∀ {l : List En}, (∀ e ∈ l, e.1.length ≤ 14) → (encB l).length = 16 * l.length
  | [], _ => rfl
  | e :: l, h => by
    have e1 : encB (e :: l) = enB e ++ encB l := rfl
    rw [e1, List.length_append, enB_len (h e (List.mem_cons_self ..)), encB_len fun x hx => h x (List.mem_cons_of_mem _ hx), List.length_cons]
    omega

theorem encB_next {l : List En} {i : Nat} (hi : i < l.length) : encB (l.take (i + 1)) = encB (l.take i) ++ enB l[i] := by
  rw [List.take_succ_eq_append_getElem hi]
  unfold encB
  rw [List.flatMap_append]
  show _ ++ (enB l[i] ++ []) = _
  rw [List.append_nil]

theorem encode_spec (l : List En) (h : Hd) (hh : h.Ok l.length) (hl : l.length ≤ 1000) (hn : ∀ e ∈ l, e.1.length ≤ 14) : PureSpec Tryz.prog 81 [h.v l.length] (fun w => RowAt w h.a (enCs l)) (RelB (encB l)) := by
  have hel : ∀ i, i ≤ l.length → (encB (l.take i)).length = 16 * i := fun i hi => by
    rw [encB_len fun e he => hn e (List.mem_of_mem_take he), List.length_take, Nat.min_eq_left hi]
  refine PureSpec.of_xc tabOk Tryz.func81 rfl (by decide) (n := Tryz.f81.ntmps - 1) rfl rfl fun w0 av => ?_
  conv => whnf
  refine XStop.loop tabOk (ι := Nat × Option Addr × Nat × List Value) ([3, 4, 5] ++ List.range' 6 25) (fun x => x.1 ≤ l.length ∧ Own 1 (16 * x.1) x.2.1 x.2.2.1 x.2.2.2 ((encB (l.take x.1)).map byteV))
    (fun x => [(3, .v (.slice x.2.1 (16 * x.1) x.2.2.1)), (4, .v (.int .i64 (x.1 : Int)))]) (fun _ => []) (fun x => ⟨fun w => RowAt w h.a (enCs l), orow x.2.1 x.2.2.2⟩)
    (fun x => l.length - x.1) (0, none, 0, []) ⟨Nat.zero_le _, Own.nil 1⟩ ?_ rfl (Ent.of_le ⟨by simp [orow], fun w hw => hw⟩) fun x hx => ?_
  · conv => whnf
    repeat (first | exact FLe.nil | refine FLe.any ?_ | refine FLe.cons ?_)
  obtain ⟨i, a, cap, C⟩ := x
  obtain ⟨hi, hO⟩ := hx
  dsimp only at hi hO ⊢
  conv => whnf
  refine XIf.split (fun hlt => ?_) (fun hlt => ?_)
  · have hlt' : i < l.length := by
      simp only [iLt_eq, decide_eq_true_eq] at hlt
      omega
    have hnl := hn _ (List.getElem_mem hlt')
    conv => whnf
    refine XVal.makeBytes tabOk (t := 23) rfl rfl rfl rfl rfl rfl 16 rfl rfl (by decide) (by decide) fun b0 => ?_
    conv => whnf
    refine XVal.of_read (XRead.index tabOk (t := 127) rfl rfl rfl (by omega) (by omega) hh.nil fun ad had => ?_)
    conv => whnf
    refine XVal.of_read (XRead.loadF tabOk (t := 9) rfl rfl (ad := ad) (k := 2 * i) (L := enCs l) (v := strV l[i].1) (.fact fun w hw => had ▸ hw) (fun hs => by rw [Addr.addAdd hs]; congr 1; simp; try omega) (enCs_get hlt').1 ?_)
    conv => whnf
    refine XVal.ent (F' := ⟨fun w => RowAt w h.a (enCs l), orow a C ++ [(b0, Row.c ((List.replicate 16 (0 : UInt8)).map byteV ++ []))] ++ []⟩) (Ent.of_le ⟨by simp, fun w hw => hw⟩) ?_
    refine XVal.copyStr tabOk (t := 23) rfl rfl rfl rfl (r1 := orow a C) (r2 := []) (b := b0) (k := 0) (l := List.replicate 16 0) (m := l[i].1) (Z := []) rfl (by omega) (by simp; omega) ?_
    have hll : (lay (List.replicate 16 (0 : UInt8)) 0 l[i].1).length = 16 := by rw [lay_len (by simp; omega)]; simp
    have hen : enB l[i] = bput (lay (List.replicate 16 0) 0 l[i].1) 14 (l[i].2 % 256) := rfl
    have heb := enB_len hnl
    generalize lay (List.replicate 16 (0 : UInt8)) 0 l[i].1 = lb at *
    conv => whnf
    refine XVal.of_read (XRead.index tabOk (t := 127) rfl rfl rfl (by omega) (by omega) hh.nil fun ad had => ?_)
    conv => whnf
    refine XVal.of_read (XRead.loadF tabOk (t := 3) rfl rfl (ad := ad) (k := 2 * i + 1) (L := enCs l) (v := intV l[i].2) (.fact fun w hw => had ▸ hw) (fun hs => by rw [Addr.addAdd hs]; congr 1; simp; try omega) (enCs_get hlt').2 ?_)
    conv => whnf
    refine XVal.of_read (XRead.rowIx tabOk (t := 23) rfl rfl rfl rfl 14 rfl (by decide) ?_)
    conv => whnf
    refine XUnit.storeByte tabOk (t := 5) rfl rfl (r1 := orow a C) (r2 := []) (l := lb) (Z := []) (l[i].2 % 256) rfl (wrap_u8 _) (Nat.mod_lt _ (by decide)) (by omega) ?_
    rw [← hen]
    conv => whnf
    refine XVal.ent (F' := ⟨fun w => RowAt w h.a (enCs l), [] ++ orow a C ++ [(b0, Row.c ((enB l[i]).map byteV ++ []))]⟩) (Ent.of_le ⟨by simp, fun w hw => hw⟩) ?_
    refine XVal.append tabOk (t := 23) (xt := 23) rfl rfl rfl rfl rfl rfl (r1 := []) (r2 := [(b0, Row.c ((enB l[i]).map byteV ++ []))]) (M := (enB l[i]).map byteV) hO (Sees.bytes (Z := []) (by simp)) (by simp [heb]) (fun v hv => byte_one v hv) (by omega) (by simp; omega) fun a' c' C' hO' => ?_
    conv => whnf
    refine ⟨(i + 1, a', c', C'), ⟨⟨hlt', ?_⟩, by dsimp only; omega⟩, ?_, ?_, ?_⟩
    · dsimp only
      rw [encB_next hlt', List.map_append]
      exact hO'
    · conv => whnf
      refine ⟨?_, rfl⟩
      repeat (first | exact FLe.nil | refine FLe.any ?_ | refine FLe.cons ?_ | refine FLe.eq (by rw [wrap_i64 (by omega)]; rfl) ?_)
    · conv => whnf
      exact trivial
    · refine Ent.of_le ⟨by simp, fun w hw => hw⟩
  · have hie : i = l.length := by
      simp only [iLt_eq, decide_eq_false_iff_not] at hlt
      omega
    subst hie
    rw [List.take_length] at hO
    have hee := hel l.length (Nat.le_refl _)
    rw [List.take_length] at hee
    conv => whnf
    refine ⟨⟨fun w => RowAt w a ((encB l).map byteV), []⟩, (Own.gives hO).trans (Ent.imp fun w hw => hw.2), ⟨a, cap⟩, ?_, ?_, rfl⟩
    · rw [hee]
    · rw [hee]
      exact hO.hd

end Go.Proofs.YtfeoedkmndkbjaaGreatDoor
namespace Go.Proofs.YtfeoedkmndkbjaaGreatDoor
open Go Go.Sx
set_option maxRecDepth 100000
set_option maxHeartbeats 4000000
set_option linter.unusedVariables false
set_option linter.unusedSimpArgs false

/-- Entries and an error. -/
def RelEE (l : List En) (e : Int) (v : Value) (F : Fx) : Prop := ∃ h : Hd, v = .tuple #[h.v l.length, .int .i64 e] ∧ h.Ok l.length ∧ F = ⟨fun w => RowAt w h.a (enCs l), []⟩

/-- The same, the entries a row of the caller's own. -/
def RelEEO (l : List En) (e : Int) (v : Value) (F : Fx) : Prop := ∃ a cap C, v = .tuple #[.slice a l.length cap, .int .i64 e] ∧ Own 2 l.length a cap C (enCs l) ∧ F = ⟨fun _ => True, orow a C⟩

theorem relEEO_nil {D : World → Prop} {rs : List (Nat × Row)} {e : Int} : ∃ F', Ent ⟨D, rs⟩ F' ∧ RelEEO [] e (.tuple #[.slice none 0 0, .int .i64 e]) F' :=
  ⟨⟨fun _ => True, []⟩, Ent.bare fun w _ => trivial, none, 0, [], rfl, Own.nil 2, rfl⟩

theorem contentR_len {d : List UInt8} {n : Nat} (hg : gete d n = 0) (hk : rk d n = 2) : (contentR d n).length = 128 := by
  obtain ⟨hd, hok, m, hm, hm32, hrk⟩ := gete_zero hg
  have hm : n = m := by omega
  subst hm
  have hf := hok.form n hm32
  unfold formB at hf
  rw [Bool.and_eq_true] at hf
  have hs : rs d n = 128 := by
    have h2 := hf.2
    split at h2
    · rename_i hz
      have := (inoZ_iff.1 hz).1
      omega
    · rw [decide_eq_true_eq] at h2
      have := h2.2.2.2.2.2
      omega
  unfold contentR
  rw [hg, if_neg (by simp), List.length_take, contB_len hd fun j hj => ok_blocks hok hm32 hj, hs]
  rfl

noncomputable def dirR (d : List UInt8) (n : Int) : List En × Nat := if gete d n ≠ 0 then ([], gete d n) else if rk d n.toNat ≠ 2 then ([], 14) else (entsR (contentR d n.toNat), 0)

theorem dirO_spec (d : List UInt8) (h : Hd) (hh : h.Ok d.length) (hl : d.length ≤ 1000000) (n : Int) :
    PureSpec Tryz.prog 78 [h.v d.length, .int .i64 n] (fun w => By w h d) (RelEEO (dirR d n).1 (dirR d n).2) := by
  refine PureSpec.of_xc tabOk Tryz.func78 rfl (by decide) (n := Tryz.f78.ntmps - 2) rfl rfl fun w0 av => ?_
  conv => whnf
  obtain ⟨k, s, b, hL, hE⟩ := getL_ino d n
  refine XCall.val (get37_spec d h hh hl n) (fun w hw => hw) (fun v D hv => ?_)
  rw [hL] at hv
  generalize hg : gete d n = e at hv
  subst hv
  conv => whnf
  intro b0
  conv => whnf
  refine XIf.split (fun he => ?_) (fun he => ?_)
  · have he' : e ≠ 0 := by
      simp [iNe_eq] at he
      omega
    have : dirR d n = ([], e) := by
      unfold dirR
      rw [hg, if_pos he']
    rw [this]
    conv => whnf
    exact relEEO_nil
  have he' : e = 0 := by
    simp [iNe_eq] at he
    omega
  subst he'
  obtain ⟨hd, hok, m, hm, hm32, hrk⟩ := gete_zero hg
  subst hm
  obtain ⟨hk, hs, hb⟩ := hE hg
  rw [Int.toNat_natCast] at hk hs hb
  conv => whnf
  refine XIf.split (fun h2 => ?_) (fun h2 => ?_)
  · have h2' : k ≠ 2 := by
      simp [iNe_eq] at h2
      omega
    have : dirR d m = ([], 14) := by
      unfold dirR
      rw [hg, if_neg (by simp), Int.toNat_natCast, if_pos (by omega)]
    rw [this]
    conv => whnf
    exact relEEO_nil
  have h2' : rk d m = 2 := by
    simp [iNe_eq] at h2
    omega
  have hR : dirR d m = (entsR (contentR d m), 0) := by
    unfold dirR
    rw [hg, if_neg (by simp), Int.toNat_natCast, if_neg (by omega)]
  rw [hR]
  have hcl := contentR_len hg h2'
  conv => whnf
  refine XCall.pure (Content_spec d h hh hl m) (fun w hw => hw) (fun v D hv => ?_)
  obtain ⟨k3, rfl, hk3, rfl⟩ := hv
  have hes := entriesO_spec (contentR d m) k3 hk3 hcl
  generalize contentR d m = c at *
  conv => whnf
  refine XCall.pure hes (fun w hw => hw.2) (fun v D hv => ?_)
  obtain ⟨a, cap, C, rfl, hO, rfl⟩ := hv
  conv => whnf
  exact ⟨⟨fun _ => True, orow a C⟩, Ent.of_le ⟨by simp [Fx.and], fun w hw => trivial⟩, a, cap, C, rfl, hO, rfl⟩

theorem dir_spec (d : List UInt8) (h : Hd) (hh : h.Ok d.length) (hl : d.length ≤ 1000000) (n : Int) :
    PureSpec Tryz.prog 78 [h.v d.length, .int .i64 n] (fun w => By w h d) (RelEE (dirR d n).1 (dirR d n).2) :=
  (dirO_spec d h hh hl n).weaken fun v F ⟨a, cap, C, hv, hO, hF⟩ => by
    subst hv hF
    exact ⟨⟨fun w => RowAt w a (enCs (dirR d n).1), []⟩, (Own.gives hO).trans (Ent.imp fun w h => h.2), ⟨a, cap⟩, rfl, ⟨fun ha => hO.none_nil ha, hO.fit⟩, rfl⟩

/-- Names are followed. -/
noncomputable def followR (d : List UInt8) : List (List UInt8) → Nat → Nat × Nat
  | [], n => (n, 0)
  | s :: r, n => if (dirR d n).2 ≠ 0 then (0, (dirR d n).2) else match fidx (dirR d n).1 s with
    | none => (0, 8)
    | some k => followR d r (((dirR d n).1[k]?.map (·.2)).getD 0)

theorem fidx_lt {l : List En} {s : List UInt8} {k : Nat} (h : fidx l s = some k) : k < l.length := by
  unfold fidx at h
  rw [List.findIdx?_eq_some_iff_getElem] at h
  exact h.1

def RelII (n e : Nat) (v : Value) (F : Fx) : Prop := v = .tuple #[.int .i64 (n : Int), .int .i64 (e : Int)]

theorem entsR_small (c : List UInt8) : (entsR c).length ≤ 8 := by
  unfold entsR
  split
  · simp [ens]
  · simp

theorem dirR_small (d : List UInt8) (n : Int) : (dirR d n).1.length ≤ 8 := by
  unfold dirR
  split
  · simp
  · split
    · simp
    · exact entsR_small _

theorem follow_spec (d : List UInt8) (h : Hd) (hh : h.Ok d.length) (hl : d.length ≤ 1000000) (k : Hd) (l : List (List UInt8)) (hk : k.Ok l.length) (hll : l.length ≤ 1000000) :
    PureSpec Tryz.prog 77 [h.v d.length, k.v l.length] (fun w => By w h d ∧ StrAt w k l) (RelII (followR d l 0).1 (followR d l 0).2) := by
  obtain ⟨F0, hF0⟩ : ∃ x, x = followR d l 0 := ⟨_, rfl⟩
  rw [← hF0]
  refine PureSpec.of_xc tabOk Tryz.func77 rfl (by decide) (n := Tryz.f77.ntmps - 2) rfl rfl fun w0 av => ?_
  conv => whnf
  refine XStop.loop tabOk (ι := Nat × Nat) ([6, 7, 8, 9, 10] ++ List.range' 11 28) (fun x => x.1 ≤ l.length ∧ F0 = followR d (l.drop x.1) x.2)
    (fun x => [(6, .v (.int .i64 (x.2 : Int))), (7, .v (.int .i64 (x.1 : Int)))]) (fun _ => []) (fun x => ⟨fun w => By w h d ∧ StrAt w k l, []⟩)
    (fun x => l.length - x.1) (0, 0) ⟨Nat.zero_le _, hF0⟩ ?_ rfl (Ent.refl _) fun x hx => ?_
  · conv => whnf
    repeat (first | exact FLe.nil | refine FLe.any ?_ | refine FLe.cons ?_)
  obtain ⟨i, n⟩ := x
  obtain ⟨hi, hfo⟩ := hx
  dsimp only at hi hfo ⊢
  conv => whnf
  refine XIf.split (fun hlt => ?_) (fun hlt => ?_)
  · have hlt' : i < l.length := by
      simp only [iLt_eq, decide_eq_true_eq] at hlt
      omega
    have hdr : l.drop i = l[i] :: l.drop (i + 1) := List.drop_eq_getElem_cons hlt'
    rw [hdr] at hfo
    unfold followR at hfo
    have hds := dirR_small d n
    have hdp := dir_spec d h hh hl n
    generalize hD : dirR d n = dr at *
    obtain ⟨es, e⟩ := dr
    dsimp only at hfo hds hdp
    conv => whnf
    refine XCall.pure hdp (fun w hw => hw.1) (fun v D hv => ?_)
    obtain ⟨k2, rfl, hk2, rfl⟩ := hv
    conv => whnf
    refine XIf.split (fun he => ?_) (fun he => ?_)
    · have he' : e ≠ 0 := by
        simp [iNe_eq] at he
        omega
      rw [if_pos he'] at hfo
      rw [hfo]
      conv => whnf
      exact ⟨_, Ent.refl _, rfl⟩
    have he' : e = 0 := by
      simp [iNe_eq] at he
      omega
    rw [if_neg (by omega)] at hfo
    conv => whnf
    refine XVal.of_read (XRead.index tabOk (t := 51) rfl rfl rfl (by omega) (by omega) hk.nil fun ad had => ?_)
    conv => whnf
    refine XVal.of_read (XRead.load tabOk (t := 9) rfl rfl (ad := ad) (k := i) (L := l.map strV) (v := strV l[i]) (.fact fun w hw => had ▸ hw.1.2) (by simp) (by simp [hlt']) ?_)
    conv => whnf
    refine XCall.val (find38_spec es k2 hk2 (by omega) l[i]) (fun w hw => hw.2) (fun v D hv => ?_)
    generalize hf : fidx es l[i] = fi at hv hfo
    subst hv
    cases fi with
    | none =>
      dsimp only at hfo
      rw [hfo]
      obtain ⟨z, hz⟩ : ∃ z : Int, z = fint none := ⟨_, rfl⟩
      rw [← hz]
      conv => whnf
      refine XIf.yes (by subst hz; simp [iLt_eq, fint]) ?_
      conv => whnf
      exact ⟨_, Ent.refl _, rfl⟩
    | some q =>
      have hq := fidx_lt hf
      dsimp only at hfo
      rw [List.getElem?_eq_getElem hq] at hfo
      obtain ⟨z, hz⟩ : ∃ z : Int, z = fint (some q) := ⟨_, rfl⟩
      rw [← hz]
      have hz : z = (q : Int) := hz
      conv => whnf
      refine XIf.no (by subst hz; simp [iLt_eq]) ?_
      conv => whnf
      refine XVal.of_read (XRead.index tabOk (t := 127) rfl rfl rfl (by omega) (by omega) hk2.nil fun ad2 had2 => ?_)
      conv => whnf
      refine XVal.of_read (XRead.loadF tabOk (t := 3) rfl rfl (ad := ad2) (k := 2 * q + 1) (L := enCs es) (v := intV es[q].2) (.fact fun w hw => had2 ▸ hw.2) (fun hs => by rw [Addr.addAdd hs, hz]; congr 1; simp; try omega) (enCs_get hq).2 ?_)
      conv => whnf
      refine ⟨(i + 1, es[q].2), ⟨⟨hlt', hfo⟩, by dsimp only; omega⟩, ?_, ?_, ?_⟩
      · conv => whnf
        refine ⟨?_, rfl⟩
        repeat (first | exact FLe.nil | refine FLe.any ?_ | refine FLe.cons ?_ | refine FLe.eq (by rw [wrap_i64 (by omega)]; rfl) ?_)
      · conv => whnf
        exact trivial
      · refine Ent.of_le ⟨by simp [Fx.and], fun w hw => hw.1⟩
  · have hie : i = l.length := by
      simp only [iLt_eq, decide_eq_false_iff_not] at hlt
      omega
    subst hie
    rw [List.drop_length] at hfo
    rw [hfo]
    conv => whnf
    exact ⟨_, Ent.refl _, rfl⟩

end Go.Proofs.YtfeoedkmndkbjaaGreatDoor
namespace Go.Proofs.YtfeoedkmndkbjaaGreatDoor
open Go Go.Sx
set_option maxRecDepth 100000
set_option maxHeartbeats 4000000
set_option linter.unusedVariables false
set_option linter.unusedSimpArgs false

/-- The entries of a directory are gone through. -/
noncomputable def reachE (d : List UInt8) (rec : Nat → List Nat → Option (List Nat)) : List En → List Nat → Option (List Nat)
  | [], c => some c
  | e :: r, c => if e.1 = [] then reachE d rec r c else if gete d e.2 ≠ 0 ∨ 0 < c.getD e.2 0 then none else
    if rk d e.2 = 2 then (match rec e.2 (c.set e.2 (c.getD e.2 0 + 1)) with
      | none => none
      | some c' => reachE d rec r c') else reachE d rec r (c.set e.2 (c.getD e.2 0 + 1))

noncomputable def reachR (d : List UInt8) : Nat → Nat → List Nat → Option (List Nat)
  | 0, _, _ => none
  | f + 1, n, c => if entsOk (contentR d n) = true then reachE d (reachR d f) (entsR (contentR d n)) c else none

def Cnt (c : List Nat) : Prop := c.length = 32 ∧ ∀ x ∈ c, x ≤ 1

theorem Cnt.set {c : List Nat} (h : Cnt c) {m y : Nat} (hy : y = 0) : Cnt (c.set m (y + 1)) := by
  refine ⟨by simp [h.1], fun z hz => ?_⟩
  rcases List.mem_or_eq_of_mem_set hz with h5 | h5
  · exact h.2 z h5
  · omega

theorem reachE_cnt {d : List UInt8} {rec : Nat → List Nat → Option (List Nat)} (hr : ∀ n c c', rec n c = some c' → Cnt c → Cnt c') : ∀ (l : List En) (c c' : List Nat), reachE d rec l c = some c' → Cnt c → Cnt c'
  | [], c, c', h, hc => by
    unfold reachE at h
    cases h
    exact hc
  | e :: r, c, c', h, hc => by
    unfold reachE at h
    by_cases h1 : e.1 = []
    · rw [if_pos h1] at h
      exact reachE_cnt hr r c c' h hc
    rw [if_neg h1] at h
    by_cases h2 : gete d e.2 ≠ 0 ∨ 0 < c.getD e.2 0
    · rw [if_pos h2] at h
      cases h
    rw [if_neg h2] at h
    have hs : Cnt (c.set e.2 (c.getD e.2 0 + 1)) := hc.set (by omega)
    by_cases h3 : rk d e.2 = 2
    · rw [if_pos h3] at h
      cases hq : rec e.2 (c.set e.2 (c.getD e.2 0 + 1)) with
      | none => rw [hq] at h; cases h
      | some c2 =>
        rw [hq] at h
        exact reachE_cnt hr r c2 c' h (hr _ _ _ hq hs)
    · rw [if_neg h3] at h
      exact reachE_cnt hr r _ c' h hs

theorem reachR_cnt {d : List UInt8} : ∀ (f n : Nat) (c c' : List Nat), reachR d f n c = some c' → Cnt c → Cnt c'
  | 0, n, c, c', h, _ => by cases h
  | f + 1, n, c, c', h, hc => by
    unfold reachR at h
    split at h
    · exact reachE_cnt (fun n c c' => reachR_cnt f n c c') _ _ _ h hc
    · cases h

def RelRe (b : Nat) (r : Option (List Nat)) (v : Value) (F : Fx) : Prop := match r with
  | some c => v = .bool true ∧ F = ⟨fun _ => True, [(b, Row.c (c.map intV))]⟩
  | none => v = .bool false ∧ F = ⟨fun _ => True, []⟩

theorem relRe_no {D : World → Prop} {rs : List (Nat × Row)} {b : Nat} {r : Option (List Nat)} (h : r = none) : ∃ F', Ent ⟨D, rs⟩ F' ∧ RelRe b r (.bool false) F' := by
  subst h
  exact ⟨⟨fun _ => True, []⟩, Ent.bare fun _ _ => trivial, rfl, rfl⟩

theorem laid_int {c : List Nat} {k : Nat} (h : k < c.length) (v : Nat) : laid (c.map intV) k [intV v] = (c.set k v).map intV := by
  apply List.ext_getElem?
  intro j
  rw [laid_get (by simp; omega)]
  by_cases hj : j = k
  · subst hj
    rw [if_pos (by simp)]
    simp [h]
  · rw [if_neg (by simp; omega)]
    simp [List.getElem?_set_ne (fun e => hj e.symm)]

theorem int_get {c : List Nat} {k : Nat} (h : k < c.length) : (c.map intV)[k]? = some (intV (c.getD k 0)) := by
  rw [List.getElem?_map, List.getD_eq_getElem?_getD, List.getElem?_eq_getElem h]
  rfl

theorem reach_spec (d : List UInt8) (h : Hd) (hh : h.Ok d.length) (hl : d.length ≤ 1000000) (bc : Nat) : ∀ (f : Nat), f ≤ 33 → ∀ (n : Nat) (c : List Nat) (dep : Int), dep = 33 - f → gete d n = 0 → rk d n = 2 → c.length = 32 → (∀ x ∈ c, x ≤ 1) →
    RowsSpec Tryz.prog 55 [h.v d.length, .int .i64 (n : Int), .slice (some ⟨bc, 0, none⟩) 32 32, .int .i64 dep] [(bc, Row.c (c.map intV))] (fun w => By w h d) (RelRe bc (reachR d f n c)) := by
  intro f
  induction f with
  | zero =>
    intro hf n c dep hdep hg hk hcl hc1
    refine RowsSpec.of_xc tabOk Tryz.func55 rfl (by decide) (n := Tryz.f55.ntmps - 4) rfl rfl (by simp) fun w0 av => ?_
    conv => whnf
    refine XCall.pure (Content_spec d h hh hl n) (fun w hw => hw) (fun v D hv => ?_)
    obtain ⟨k3, rfl, hk3, rfl⟩ := hv
    have hes := entries_spec (contentR d n) k3 hk3 (contentR_len hg hk)
    generalize contentR d n = cc at *
    conv => whnf
    refine XCall.pure hes (fun w hw => hw.2) (fun v D hv => ?_)
    obtain ⟨k4, rfl, hk4, rfl⟩ := hv
    generalize entsOk cc = ok
    cases ok
    · conv => whnf
      repeat (refine XSame.of ?_; conv => whnf)
      repeat' (first
        | (refine XIf.yes rfl ?_; conv => whnf))
      exact relRe_no rfl
    · conv => whnf
      repeat (refine XSame.of ?_; conv => whnf)
      refine XIf.yes (by subst hdep; simp [iGt_eq]) ?_
      conv => whnf
      exact relRe_no rfl
  | succ f ih =>
    intro hf n c dep hdep hg hk hcl hc1
    refine RowsSpec.of_xc tabOk Tryz.func55 rfl (by decide) (n := Tryz.f55.ntmps - 4) rfl rfl (by simp) fun w0 av => ?_
    obtain ⟨T, hT⟩ : ∃ x, x = reachR d (f + 1) n c := ⟨_, rfl⟩
    rw [← hT]
    unfold reachR at hT
    conv => whnf
    refine XCall.pure (Content_spec d h hh hl n) (fun w hw => hw) (fun v D hv => ?_)
    obtain ⟨k3, rfl, hk3, rfl⟩ := hv
    have hes := entries_spec (contentR d n) k3 hk3 (contentR_len hg hk)
    have hsm := entsR_small (contentR d n)
    generalize contentR d n = cc at *
    conv => whnf
    refine XCall.pure hes (fun w hw => hw.2) (fun v D hv => ?_)
    obtain ⟨k4, rfl, hk4, rfl⟩ := hv
    generalize entsOk cc = ok at *
    cases ok
    · conv => whnf
      repeat (refine XSame.of ?_; conv => whnf)
      repeat' (first
        | (refine XIf.yes rfl ?_; conv => whnf))
      rw [if_neg (by simp)] at hT
      exact relRe_no hT
    rw [if_pos rfl] at hT
    generalize entsR cc = es at *
    generalize hrec : reachR d f = rec at *
    conv => whnf
    repeat (refine XSame.of ?_; conv => whnf)
    refine XIf.no (by subst hdep; simp [iGt_eq]; omega) ?_
    conv => whnf
    refine XStop.loop tabOk (ι := Nat × List Nat) ([11, 12, 13, 14] ++ List.range' 28 50) (fun x => x.1 ≤ es.length ∧ T = reachE d rec (es.drop x.1) x.2 ∧ x.2.length = 32 ∧ ∀ y ∈ x.2, y ≤ 1)
      (fun x => [(11, .v (.int .i64 (x.1 : Int)))]) (fun _ => []) (fun x => ⟨fun w => By w h d ∧ RowAt w k4.a (enCs es), [(bc, Row.c (x.2.map intV))]⟩)
      (fun x => es.length - x.1) (0, c) ⟨Nat.zero_le _, hT, hcl, hc1⟩ ?_ rfl (Ent.of_le ⟨by simp [Fx.and], fun w hw => ⟨hw.1.1, hw.2⟩⟩) fun x hx => ?_
    · conv => whnf
      repeat (first | exact FLe.nil | refine FLe.any ?_ | refine FLe.cons ?_)
    clear hT hcl hc1
    obtain ⟨i, c⟩ := x
    obtain ⟨hi, hT, hcl, hc1⟩ := hx
    dsimp only at hi hT hcl hc1 ⊢
    conv => whnf
    refine XIf.split (fun hlt => ?_) (fun hlt => ?_)
    · have hlt' : i < es.length := by
        simp only [iLt_eq, decide_eq_true_eq] at hlt
        omega
      rw [List.drop_eq_getElem_cons hlt'] at hT
      unfold reachE at hT
      generalize hm : es[i].2 = m at *
      generalize hnm : es[i].1 = nm at *
      have hc1' := (enCs_get hlt').1
      have hc2' := (enCs_get hlt').2
      rw [hnm] at hc1'
      rw [hm] at hc2'
      conv => whnf
      refine XVal.of_read (XRead.index tabOk (t := 127) rfl rfl rfl (by omega) (by omega) hk4.nil fun ad had => ?_)
      conv => whnf
      refine XVal.of_read (XRead.loadF tabOk (t := 3) rfl rfl (ad := ad) (k := 2 * i + 1) (L := enCs es) (v := intV m) (.fact fun w hw => had ▸ hw.2) (fun hs => by rw [Addr.addAdd hs]; congr 1; simp; try omega) hc2' ?_)
      conv => whnf
      refine XVal.of_read (XRead.index tabOk (t := 127) rfl rfl rfl (by omega) (by omega) hk4.nil fun ad had => ?_)
      conv => whnf
      refine XVal.of_read (XRead.loadF tabOk (t := 9) rfl rfl (ad := ad) (k := 2 * i) (L := enCs es) (v := strV nm) (.fact fun w hw => had ▸ hw.2) (fun hs => by rw [Addr.addAdd hs]; congr 1; simp; try omega) hc1' ?_)
      conv => whnf
      refine XVal.of_read (XRead.strEq (l := nm) (m := []) ?_)
      conv => whnf
      refine XIf.split (fun hq => ?_) (fun hq => ?_)
      · have hq' : nm = [] := by simpa using hq
        rw [if_pos hq'] at hT
        conv => whnf
        refine ⟨(i + 1, c), ⟨⟨hlt', hT, hcl, hc1⟩, by dsimp only; omega⟩, ?_, ?_, Ent.refl _⟩
        · conv => whnf
          refine ⟨?_, rfl⟩
          repeat (first | exact FLe.nil | refine FLe.any ?_ | refine FLe.cons ?_ | refine FLe.eq (by rw [wrap_i64 (by omega)]; rfl) ?_)
        · conv => whnf
          exact trivial
      have hq' : nm ≠ [] := by simpa using hq
      rw [if_neg hq'] at hT
      obtain ⟨k, s, b, hL, hE⟩ := getL_ino d m
      conv => whnf
      refine XCall.val (get37_spec d h hh hl m) (fun w hw => hw.1) (fun v D hv => ?_)
      rw [hL] at hv
      generalize hge : gete d m = e at hv hT
      subst hv
      conv => whnf
      intro b0
      conv => whnf
      repeat (refine XSame.of ?_; conv => whnf)
      refine XIf.split (fun he => ?_) (fun he => ?_)
      · have he' : e ≠ 0 := by
          simp [iNe_eq] at he
          omega
        rw [if_pos (.inl he')] at hT
        conv => whnf
        repeat (refine XSame.of ?_; conv => whnf)
        repeat' (first
          | (refine XIf.yes rfl ?_; conv => whnf))
        exact relRe_no hT
      have he' : e = 0 := by
        simp [iNe_eq] at he
        omega
      obtain ⟨hd, hok, m', hm', hm32, hrk⟩ := gete_zero (hge.trans he')
      have hm' : m = m' := by omega
      subst hm'
      obtain ⟨hk', hs', hb'⟩ := hE (hge.trans he')
      rw [Int.toNat_natCast] at hk' hs' hb'
      have hcm := int_get (c := c) (k := m) (by omega)
      have hset := laid_int (c := c) (k := m) (by omega) (c.getD m 0 + 1)
      have hcy : c.getD m 0 ≤ 1 := by
        rw [List.getD_eq_getElem?_getD, List.getElem?_eq_getElem (by omega)]
        exact hc1 _ (List.getElem_mem _)
      generalize hy : c.getD m 0 = y at *
      conv => whnf
      repeat (refine XSame.of ?_; conv => whnf)
      refine XVal.of_read (XRead.rowIx tabOk (t := 97) rfl rfl rfl rfl m rfl (by omega) ?_)
      conv => whnf
      refine XVal.of_read (XRead.load tabOk (t := 3) rfl rfl (ad := ⟨bc, 0, none⟩) (k := m) (L := c.map intV) (v := intV y) (Sees.row (by simp)) (by rw [addr0]) hcm ?_)
      conv => whnf
      repeat (refine XSame.of ?_; conv => whnf)
      refine XIf.split (fun hgt => ?_) (fun hgt => ?_)
      · have hgt' : 0 < y := by
          simp [iGt_eq] at hgt
          omega
        rw [if_pos (.inr hgt')] at hT
        conv => whnf
        exact relRe_no hT
      have hy0 : y = 0 := by
        simp [iGt_eq] at hgt
        omega
      rw [if_neg (by omega)] at hT
      conv => whnf
      refine XVal.of_read (XRead.rowIx tabOk (t := 97) rfl rfl rfl rfl m rfl (by omega) ?_)
      conv => whnf
      refine XVal.of_read (XRead.load tabOk (t := 3) rfl rfl (ad := ⟨bc, 0, none⟩) (k := m) (L := c.map intV) (v := intV y) (Sees.row (by simp)) (by rw [addr0]) hcm ?_)
      conv => whnf
      refine XVal.of_read (XRead.rowIx tabOk (t := 97) rfl rfl rfl rfl m rfl (by omega) ?_)
      conv => whnf
      refine XUnit.storeIn tabOk (t := 3) rfl (r1 := []) (r2 := []) (b := bc) (k := m) (C := c.map intV) rfl rfl (by simp [Value.cells, oneCell]) (by simp; omega) ?_
      have hst : laid (c.map intV) m (Value.int .i64 (IntKind.i64.wrap ((y : Int) + 1))).cells.toList = (c.set m (y + 1)).map intV := by
        rw [← hset]
        have : IntKind.i64.wrap ((y : Int) + 1) = ((y + 1 : Nat) : Int) := by
          rw [wrap_i64 (by omega)]
          omega
        rw [this]
        rfl
      rw [hst]
      have hc2l : (c.set m (y + 1)).length = 32 := by simp [hcl]
      have hc21 : ∀ z ∈ c.set m (y + 1), z ≤ 1 := by
        intro z hz
        rcases List.mem_or_eq_of_mem_set hz with h5 | h5
        · exact hc1 z h5
        · omega
      generalize c.set m (y + 1) = c2 at *
      conv => whnf
      refine XIf.split (fun hk2 => ?_) (fun hk2 => ?_)
      · have hk2' : rk d m = 2 := by
          simp [iEq_eq] at hk2
          omega
        rw [if_pos hk2'] at hT
        conv => whnf
        have ih' := ih (by omega) m c2 (IntKind.i64.wrap (dep + 1)) (by rw [hdep, wrap_i64 (by omega)]; omega) (hge.trans he') hk2' hc2l hc21
        refine XCall.rows (r1 := []) (r2 := []) ih' (fun w hw => hw.1) (fun v F' hv => ?_)
        unfold RelRe at hv
        cases hr : rec m c2 with
        | none =>
          rw [hr] at hv hT
          obtain ⟨rfl, rfl⟩ := hv
          conv => whnf
          repeat (refine XSame.of ?_; conv => whnf)
          repeat' (first
            | (refine XIf.yes rfl ?_; conv => whnf))
          exact relRe_no hT
        | some c3 =>
          rw [hr] at hv hT
          obtain ⟨rfl, rfl⟩ := hv
          conv => whnf
          repeat (refine XSame.of ?_; conv => whnf)
          repeat' (first
            | (refine XIf.no rfl ?_; conv => whnf))
          rw [← hrec] at hr
          obtain ⟨g1, g2⟩ := reachR_cnt f m c2 c3 hr ⟨hc2l, hc21⟩
          refine ⟨(i + 1, c3), ⟨⟨hlt', hT, g1, g2⟩, by dsimp only; omega⟩, ?_, ?_, ?_⟩
          · conv => whnf
            refine ⟨?_, rfl⟩
            repeat (first | exact FLe.nil | refine FLe.any ?_ | refine FLe.cons ?_ | refine FLe.eq (by rw [wrap_i64 (by omega)]; rfl) ?_)
          · conv => whnf
            exact trivial
          · refine Ent.of_le ⟨by simp, fun w hw => hw.1⟩
      · have hk2' : rk d m ≠ 2 := by
          simp [iEq_eq] at hk2
          omega
        rw [if_neg hk2'] at hT
        conv => whnf
        repeat (refine XSame.of ?_; conv => whnf)
        refine ⟨(i + 1, c2), ⟨⟨hlt', hT, hc2l, hc21⟩, by dsimp only; omega⟩, ?_, ?_, ?_⟩
        · conv => whnf
          refine ⟨?_, rfl⟩
          repeat (first | exact FLe.nil | refine FLe.any ?_ | refine FLe.cons ?_ | refine FLe.eq (by rw [wrap_i64 (by omega)]; rfl) ?_)
        · conv => whnf
          exact trivial
        · refine Ent.of_le ⟨by simp, fun w hw => hw⟩
    · have hie : i = es.length := by
        simp only [iLt_eq, decide_eq_false_iff_not] at hlt
        omega
      subst hie
      rw [List.drop_length] at hT
      unfold reachE at hT
      rw [hT]
      conv => whnf
      exact ⟨⟨fun _ => True, [(bc, Row.c (c.map intV))]⟩, Ent.of_le ⟨List.Sublist.refl _, fun w _ => trivial⟩, rfl, rfl⟩

def count0 : List Nat := (List.replicate 32 0).set 0 1

def Reached (d : List UInt8) (c : List Nat) : Prop := ∀ n : Nat, n < 32 → (gete d n = 0 ↔ c.getD n 0 = 1)

noncomputable instance (d : List UInt8) (c : List Nat) : Decidable (Reached d c) := Classical.propDecidable _

noncomputable def chk38 (d : List UInt8) : Nat := if chk d ≠ 0 then chk d else match reachR d 33 0 count0 with
  | none => 4
  | some c => if Reached d c then 0 else 4

theorem root_dir {d : List UInt8} (hd : d.length = 12288) (ho : Ok37 d) : rk d 0 = 2 ∧ gete d (0 : Nat) = 0 := by
  have hf := ho.form 0 (by decide)
  unfold formB at hf
  rw [Bool.and_eq_true] at hf
  have h2 := hf.2
  split at h2
  · simp at h2
  · rw [decide_eq_true_eq] at h2
    have hk := h2.2.2.1 rfl
    refine ⟨hk, ?_⟩
    unfold gete
    rw [chk_ok hd ho, if_neg (by simp), if_neg (by simp)]
    rw [if_neg (by show ¬ rk d 0 = 0; omega)]

theorem check38_spec (d : List UInt8) (h : Hd) (hh : h.Ok d.length) (hl : d.length ≤ 1000000) : PureSpec Tryz.prog 29 [h.v d.length] (fun w => By w h d) (fun v F => v = .int .i64 (chk38 d : Int)) := by
  refine PureSpec.of_xc tabOk Tryz.func29 rfl (by decide) (n := Tryz.f29.ntmps - 1) rfl rfl fun w0 av => ?_
  conv => whnf
  refine XCall.val (check37_spec d h hh hl) (fun w hw => hw) (fun v D hv => ?_)
  generalize hch : chk d = e at hv
  subst hv
  conv => whnf
  refine XIf.split (fun he => ?_) (fun he => ?_)
  · have he' : e ≠ 0 := by
      simp [iNe_eq] at he
      omega
    have : chk38 d = e := by
      unfold chk38
      rw [hch, if_pos he']
    rw [this]
    conv => whnf
    exact ⟨_, Ent.refl _, rfl⟩
  have he' : e = 0 := by
    simp [iNe_eq] at he
    omega
  subst he'
  obtain ⟨hd, hok⟩ := chk_zero hch
  obtain ⟨hr0, hg0⟩ := root_dir hd hok
  have hC : chk38 d = match reachR d 33 0 count0 with
    | none => 4
    | some c => if Reached d c then 0 else 4 := by
    unfold chk38
    rw [hch, if_neg (by simp)]
  conv => whnf
  refine XVal.makeRow tabOk (t := 97) rfl rfl rfl 32 rfl rfl (by omega) (by decide) rfl (by omega) (by simp) fun b0 => ?_
  conv => whnf
  refine XVal.of_read (XRead.rowIx tabOk (t := 97) rfl rfl rfl rfl 0 rfl (by decide) ?_)
  conv => whnf
  refine XUnit.ent (F' := ⟨fun w => By w h d, [] ++ [(b0, Row.c ((List.replicate 32 0).map intV))] ++ []⟩) (Ent.of_le ⟨List.Sublist.refl _, fun w hw => hw⟩) ?_
  refine XUnit.storeIn tabOk (t := 3) rfl (r1 := []) (r2 := []) (b := b0) (k := 0) (C := (List.replicate 32 0).map intV) rfl rfl (by simp [Value.cells, oneCell]) (by simp) ?_
  have hst : laid ((List.replicate 32 0).map intV) 0 (Value.int .i64 1).cells.toList = count0.map intV := laid_int (c := List.replicate 32 0) (k := 0) (by simp) 1
  rw [hst]
  have hrs := reach_spec d h hh hl b0 33 (by omega) 0 count0 0 (by omega) hg0 hr0 (by simp [count0]) (by decide)
  conv => whnf
  refine XCall.rows (r1 := []) (r2 := []) hrs (fun w hw => hw) (fun v F' hv => ?_)
  unfold RelRe at hv
  cases hr : reachR d 33 0 count0 with
  | none =>
    rw [hr] at hv hC
    obtain ⟨rfl, rfl⟩ := hv
    rw [hC]
    conv => whnf
    repeat (refine XSame.of ?_; conv => whnf)
    exact ⟨_, Ent.refl _, rfl⟩
  | some c =>
    have hcl := (reachR_cnt 33 0 count0 c hr ⟨by simp [count0], by decide⟩).1
    rw [hr] at hv hC
    obtain ⟨rfl, rfl⟩ := hv
    dsimp only at hC
    conv => whnf
    repeat (refine XSame.of ?_; conv => whnf)
    refine XStop.loop tabOk (ι := Nat) ([5, 6, 7] ++ List.range' 20 18) (fun x => x ≤ 32 ∧ ∀ n : Nat, n < x → (gete d n = 0 ↔ c.getD n 0 = 1))
      (fun x => [(5, .v (.int .i64 (x : Int)))]) (fun _ => []) (fun x => ⟨fun w => By w h d, [(b0, Row.c (c.map intV))]⟩)
      (fun x => 32 - x) 0 ⟨Nat.zero_le _, fun n hn => by omega⟩ ?_ rfl (Ent.of_le ⟨by simp, fun w hw => hw.1⟩) fun i hi => ?_
    · conv => whnf
      repeat (first | exact FLe.nil | refine FLe.any ?_ | refine FLe.cons ?_)
    obtain ⟨hi, hall⟩ := hi
    conv => whnf
    refine XIf.split (fun hlt => ?_) (fun hlt => ?_)
    · have hlt' : i < 32 := by
        simp only [iLt_eq, decide_eq_true_eq] at hlt
        omega
      obtain ⟨k, s, b, hL, hE⟩ := getL_ino d i
      conv => whnf
      refine XCall.val (get37_spec d h hh hl i) (fun w hw => hw) (fun v D hv => ?_)
      rw [hL] at hv
      generalize hge : gete d i = e at hv
      subst hv
      conv => whnf
      intro b1
      conv => whnf
      refine XVal.of_read (XRead.rowIx tabOk (t := 97) rfl rfl rfl rfl i rfl (by omega) ?_)
      conv => whnf
      have hcm := int_get (c := c) (k := i) (by omega)
      generalize hy : c.getD i 0 = y at *
      refine XVal.of_read (XRead.load tabOk (t := 3) rfl rfl (ad := ⟨b0, 0, none⟩) (k := i) (L := c.map intV) (v := intV y) (Sees.row (by simp)) (by rw [addr0]) hcm ?_)
      conv => whnf
      have q1 : iEq (e : Int) 0 = decide (e = 0) := iEq_nat e 0
      have q2 : iEq (y : Int) 1 = decide (y = 1) := iEq_nat y 1
      refine XIf.split (fun hne => ?_) (fun hne => ?_)
      · have : ¬ Reached d c := by
          intro hR
          have := hR i hlt'
          rw [hge, hy] at this
          rw [q1, q2] at hne
          have h3 : decide (e = 0) = decide (y = 1) := by rw [decide_eq_decide]; exact this
          rw [h3] at hne
          simp at hne
        rw [if_neg this] at hC
        rw [hC]
        conv => whnf
        exact ⟨_, Ent.bare fun _ _ => trivial, rfl⟩
      · conv => whnf
        refine ⟨i + 1, ⟨⟨hlt', fun n hn => ?_⟩, by dsimp only; omega⟩, ?_, ?_, Ent.refl _⟩
        · rcases Nat.lt_or_eq_of_le (Nat.lt_succ_iff.1 hn) with h5 | h5
          · exact hall n h5
          · subst h5
            rw [hge, hy]
            rw [q1, q2] at hne
            have h3 : decide (e = 0) = decide (y = 1) := by simpa using hne
            rwa [decide_eq_decide] at h3
        · conv => whnf
          refine ⟨?_, rfl⟩
          repeat (first | exact FLe.nil | refine FLe.any ?_ | refine FLe.cons ?_ | refine FLe.eq (by rw [wrap_i64 (by omega)]; rfl) ?_)
        · conv => whnf
          exact trivial
    · have hie : i = 32 := by
        simp only [iLt_eq, decide_eq_false_iff_not] at hlt
        omega
      subst hie
      rw [if_pos (show Reached d c from hall)] at hC
      rw [hC]
      conv => whnf
      exact ⟨_, Ent.bare fun _ _ => trivial, rfl⟩

end Go.Proofs.YtfeoedkmndkbjaaGreatDoor
namespace Go.Proofs.YtfeoedkmndkbjaaGreatDoor
open Go Go.Sx
set_option maxRecDepth 100000
set_option maxHeartbeats 4000000
set_option linter.unusedVariables false
set_option linter.unusedSimpArgs false

theorem laid_en {l : List En} {Z : List Value} {k : Nat} (hk : k < l.length) (e : En) : laid (enCs l ++ Z) (2 * k) (enC e) = enCs (l.set k e) ++ Z := by
  have hl := enCs_len l
  have hl2 := enCs_len (l.set k e)
  rw [List.length_set] at hl2
  have he : (enC e).length = 2 := rfl
  apply List.ext_getElem?
  intro j
  rw [laid_get (by rw [List.length_append]; omega)]
  by_cases hj : 2 * k ≤ j ∧ j < 2 * k + (enC e).length
  · rw [if_pos hj, List.getElem?_append_left (by omega)]
    have hg := enCs_get (l := l.set k e) (i := k) (by simpa using hk)
    simp only [List.getElem_set_self] at hg
    rcases (show j = 2 * k ∨ j = 2 * k + 1 by omega) with rfl | rfl
    · rw [hg.1]; simp [enC]
    · rw [hg.2, show 2 * k + 1 - 2 * k = 1 by omega]; rfl
  · rw [if_neg hj]
    by_cases hjl : j < l.length * 2
    · rw [List.getElem?_append_left (by omega), List.getElem?_append_left (by omega)]
      have hq : j / 2 < l.length := by omega
      have hne : k ≠ j / 2 := by omega
      have h1 := enCs_get hq
      have h2 := enCs_get (l := l.set k e) (i := j / 2) (by simpa using hq)
      rw [List.getElem_set_ne hne] at h2
      rcases (show j = 2 * (j / 2) ∨ j = 2 * (j / 2) + 1 by omega) with h3 | h3
      · rw [h3, h1.1, h2.1]
      · rw [h3, h1.2, h2.2]
    · rw [List.getElem?_append_right (by omega), List.getElem?_append_right (by omega), hl, hl2]

theorem Own.setEn {n b cap : Nat} {C : List Value} {l : List En} (h : Own 2 n (some ⟨b, 0, none⟩) cap C (enCs l)) {k : Nat} (hk : k < l.length) (hn : n = l.length) (e : En) :
    2 * k + 2 ≤ C.length ∧ Own 2 n (some ⟨b, 0, none⟩) cap (laid C (2 * k) (enC e)) (enCs (l.set k e)) := by
  have hl := enCs_len l
  have hfit := h.fit
  rcases h.alt with ⟨h1, _⟩ | ⟨b', h1, h2, h3⟩
  · cases h1
  · have hC : C = enCs l ++ C.drop (n * 2) := by
      conv => lhs; rw [← List.take_append_drop (n * 2) C]
      rw [h3]
    have hle : 2 * k + 2 ≤ C.length := by omega
    refine ⟨hle, by rw [enCs_len, List.length_set]; omega, hfit, .inr ⟨b, rfl, ?_, ?_⟩⟩
    · rw [laid_len (by show 2 * k + 2 ≤ _; omega), h2]
    · rw [hC, laid_en hk]
      have : n * 2 = (enCs (l.set k e)).length := by rw [enCs_len, List.length_set]; omega
      rw [this, List.take_left]

theorem entsR_names (c : List UInt8) : ∀ e ∈ entsR c, e.1.length ≤ 14 := by
  intro e he
  unfold entsR at he
  split at he
  · simp only [ens, List.mem_map, List.mem_range] at he
    obtain ⟨i, _, rfl⟩ := he
    have := nlen_le c 14 (16 * i)
    unfold enR cut
    simp
    omega
  · cases he

theorem dirR_names (d : List UInt8) (n : Int) : ∀ e ∈ (dirR d n).1, e.1.length ≤ 14 := by
  unfold dirR
  split
  · intro e he
    cases he
  · split
    · intro e he
      cases he
    · exact entsR_names _

theorem vname_len {s : List UInt8} (h : vname s = true) : 1 ≤ s.length ∧ s.length ≤ 14 := by
  unfold vname at h
  simp only [Bool.and_eq_true, decide_eq_true_eq] at h
  exact h.2

theorem splitR_names (p : List UInt8) : ∀ s ∈ (splitR p).1, vname s = true := by
  unfold splitR
  split
  · split
    · intro s hs
      cases hs
    · split
      · rename_i h
        rw [List.all_eq_true] at h
        exact h
      · intro s hs
        cases hs
  · intro s hs
    cases hs

theorem splitR_err (p : List UInt8) : (splitR p).2 = 0 ∨ ((splitR p).2 = 15 ∧ (splitR p).1 = []) := by
  unfold splitR
  split
  · split
    · exact .inl rfl
    · split
      · exact .inl rfl
      · exact .inr ⟨rfl, rfl⟩
  · exact .inr ⟨rfl, rfl⟩

noncomputable def makeR (d : List UInt8) (p : List UInt8) (kind : Int) : Nat × List UInt8 × Nat :=
  if chk38 d ≠ 0 then (0, [], chk38 d) else
  if (splitR p).2 ≠ 0 then (0, [], 15) else
  if kind ≠ 1 ∧ kind ≠ 2 then (0, [], 1) else
  if (splitR p).1 = [] then (0, [], 9) else
  if (followR d (splitR p).1.dropLast 0).2 ≠ 0 then (0, [], (followR d (splitR p).1.dropLast 0).2) else
  if (dirR d (followR d (splitR p).1.dropLast 0).1).2 ≠ 0 then (0, [], (dirR d (followR d (splitR p).1.dropLast 0).1).2) else
  if fidx (dirR d (followR d (splitR p).1.dropLast 0).1).1 ((splitR p).1.getLastD []) ≠ none then (0, [], 9) else
  match fidx (dirR d (followR d (splitR p).1.dropLast 0).1).1 [] with
  | none => (0, [], 13)
  | some k => if (allocR d kind.toNat).2.2 ≠ 0 then (0, [], (allocR d kind.toNat).2.2) else
    ((allocR d kind.toNat).1, (writeR (allocR d kind.toNat).2.1 (followR d (splitR p).1.dropLast 0).1 (encB ((dirR d (followR d (splitR p).1.dropLast 0).1).1.set k ((splitR p).1.getLastD [], (allocR d kind.toNat).1)))).1, 0)

theorem allocR_len (d : List UInt8) (kind : Nat) : (allocR d kind).2.1.length ≤ 1000000 := by
  unfold allocR
  by_cases h : chk d ≠ 0
  · rw [if_pos h]
    simp
  rw [if_neg h]
  obtain ⟨hd, hok⟩ := chk_zero (show chk d = 0 by omega)
  cases hf : freeI d with
  | none => simp
  | some n =>
    have hn : n < 32 := by
      unfold freeI at hf
      exact List.mem_range.1 (List.mem_of_find?_eq_some hf)
    simp only
    split
    · cases hb : freeB (bmp d) with
      | none => simp
      | some x =>
        simp only
        rw [putI_len (takeD_len hd (freeB_lt hb).2) hn]
        omega
    · simp only
      rw [putI_len hd hn]
      omega

theorem getLast_eq {l : List (List UInt8)} (h : l ≠ []) : l[l.length - 1]? = some (l.getLastD []) := getLast_get h

/-- An inode, a row of the caller's own or nil, and an error. -/
def RelNW (n : Nat) (d : List UInt8) (e : Nat) (v : Value) (F : Fx) : Prop := (∃ b cap Z, v = .tuple #[.int .i64 (n : Int), .slice (some ⟨b, 0, none⟩) d.length cap, .int .i64 (e : Int)] ∧ d.length ≤ cap ∧ F = ⟨fun _ => True, [(b, Row.c (d.map byteV ++ Z))]⟩) ∨
  (d = [] ∧ v = .tuple #[.int .i64 (n : Int), .slice none 0 0, .int .i64 (e : Int)] ∧ F = ⟨fun _ => True, []⟩)

theorem relNW_no {D : World → Prop} {rs : List (Nat × Row)} {n e : Nat} : ∃ F', Ent ⟨D, rs⟩ F' ∧ RelNW n [] e (.tuple #[.int .i64 (n : Int), .slice none 0 0, .int .i64 (e : Int)]) F' :=
  ⟨⟨fun _ => True, []⟩, Ent.bare fun w _ => trivial, .inr ⟨rfl, rfl, rfl⟩⟩

theorem relNW_nil {D : World → Prop} {rs : List (Nat × Row)} {e : Nat} : ∃ F', Ent ⟨D, rs⟩ F' ∧ RelNW 0 [] e (.tuple #[.int .i64 0, .slice none 0 0, .int .i64 (e : Int)]) F' := relNW_no

theorem relNW_down {f : FuncId} {vs : List Value} {Pre : World → Prop} {n : Nat} {d : List UInt8} {e : Nat} (h : PureSpec Tryz.prog f vs Pre (RelNW n d e)) : PureSpec Tryz.prog f vs Pre (RelN n d e) :=
  h.weaken fun v F hv => by
    rcases hv with ⟨b, cap, Z, rfl, hc, rfl⟩ | ⟨rfl, rfl, rfl⟩
    · exact ⟨⟨fun w => By w ⟨some ⟨b, 0, none⟩, cap⟩ d, []⟩, Ent.giveB (r1 := []) (r2 := []), ⟨some ⟨b, 0, none⟩, cap⟩, rfl, ⟨fun h => (by cases h), hc⟩, rfl⟩
    · exact ⟨⟨fun w => By w Hd.nil [], []⟩, Ent.bare fun w _ => By.nil w, Hd.nil, rfl, Hd.nil_ok, rfl⟩

theorem make38W_spec (d : List UInt8) (h : Hd) (hh : h.Ok d.length) (hl : d.length ≤ 1000000) (p : List UInt8) (hp : p.length ≤ 200) (kind : Int) :
    PureSpec Tryz.prog 35 [h.v d.length, strV p, .int .i64 kind] (fun w => By w h d) (RelNW (makeR d p kind).1 (makeR d p kind).2.1 (makeR d p kind).2.2) := by
  obtain ⟨M, hM⟩ : ∃ x, x = makeR d p kind := ⟨_, rfl⟩
  rw [← hM]
  unfold makeR at hM
  refine PureSpec.of_xc tabOk Tryz.func35 rfl (by decide) (n := Tryz.f35.ntmps - 3) rfl rfl fun w0 av => ?_
  conv => whnf
  refine XCall.val (check38_spec d h hh hl) (fun w hw => hw) (fun v D hv => ?_)
  generalize hch : chk38 d = e at hv hM
  subst hv
  conv => whnf
  refine XIf.split (fun he => ?_) (fun he => ?_)
  · have he' : e ≠ 0 := by
      simp [iNe_eq] at he
      omega
    rw [if_pos he'] at hM
    rw [hM]
    conv => whnf
    exact relNW_nil
  have he' : e = 0 := by
    simp [iNe_eq] at he
    omega
  rw [if_neg (by omega)] at hM
  have hsm := splitR_small p hp
  have hsn := splitR_names p
  have hse := splitR_err p
  have hsp := refSplit_spec p hp
  generalize splitR p = sp at *
  obtain ⟨names, se⟩ := sp
  dsimp only at hM hsm hsn hse
  conv => whnf
  refine XCall.pure hsp (fun w hw => trivial) (fun v D hv => ?_)
  obtain ⟨kn, rfl, hkn, rfl⟩ := hv
  dsimp only at hkn ⊢
  conv => whnf
  refine XIf.split (fun hs => ?_) (fun hs => ?_)
  · have hs' : se ≠ 0 := by
      simpa [iNe_eq] using hs
    rw [if_pos hs'] at hM
    rw [hM]
    have : se = 15 := (hse.resolve_left hs').1
    subst this
    conv => whnf
    exact relNW_nil
  have hs' : se = 0 := by
    simpa [iNe_eq] using hs
  rw [if_neg (by omega)] at hM
  conv => whnf
  repeat (refine XSame.of ?_; conv => whnf)
  refine XIf.split (fun hk => ?_) (fun hk => ?_)
  · have hk' : kind ≠ 1 ∧ kind ≠ 2 := by
      simpa [iNe_eq] using hk
    rw [if_pos hk'] at hM
    rw [hM]
    conv => whnf
    exact relNW_nil
  have hk' : kind = 1 ∨ kind = 2 := by
    simp [iNe_eq] at hk
    omega
  rw [if_neg (by omega)] at hM
  conv => whnf
  refine XIf.split (fun hn => ?_) (fun hn => ?_)
  · have hn' : names = [] := by
      simp [iEq_eq] at hn
      exact hn
    rw [if_pos hn'] at hM
    rw [hM]
    conv => whnf
    exact relNW_nil
  have hn' : names ≠ [] := by
    simp [iEq_eq] at hn
    exact hn
  rw [if_neg hn'] at hM
  have hlen : 0 < names.length := List.length_pos_iff.2 hn'
  have hw1 : IntKind.i64.wrap ((names.length : Int) - 1) = ((names.length - 1 : Nat) : Int) := by
    rw [wrap_i64 (by omega)]
    omega
  have hlast := getLast_eq hn'
  have hlv : vname (names.getLastD []) = true := hsn _ (List.mem_of_getElem? hlast)
  generalize names.getLastD [] = last at *
  have hdl : names.dropLast = names.take (names.length - 1) := List.dropLast_eq_take
  rw [hdl] at hM
  conv => whnf
  refine XVal.of_read (XRead.index tabOk (t := 51) rfl rfl rfl (by rw [hw1]; omega) (by rw [hw1]; omega) hkn.nil fun ad had => ?_)
  conv => whnf
  refine XVal.of_read (XRead.load tabOk (t := 9) rfl rfl (ad := ad) (k := names.length - 1) (L := names.map strV) (v := strV last) (.fact fun w hw => had ▸ hw.2) (by rw [hw1]; simp) (by rw [List.getElem?_map, hlast]; rfl) ?_)
  conv => whnf
  refine XVal.of_read (XRead.subTo tabOk (t := 51) rfl rfl rfl (names.length - 1) hw1 (Nat.le_trans (by omega) hkn.cap) ?_)
  conv => whnf
  have hfs := follow_spec d h hh hl kn (names.take (names.length - 1)) ⟨fun h0 => by have := hkn.nil h0; omega, by have := hkn.cap; rw [List.length_take]; omega⟩ (by rw [List.length_take]; omega)
  rw [List.length_take, Nat.min_eq_left (by omega)] at hfs
  generalize followR d (names.take (names.length - 1)) 0 = fr at *
  obtain ⟨at0, fe⟩ := fr
  dsimp only at hM hfs
  refine XCall.val hfs (fun w hw => ⟨hw.1, ?_⟩) (fun v D hv => ?_)
  · have := RowAt.take hw.2 (names.length - 1)
    unfold StrAt
    rw [List.map_take]
    exact this
  unfold RelII at hv
  subst hv
  conv => whnf
  refine XIf.split (fun hf => ?_) (fun hf => ?_)
  · have hf' : fe ≠ 0 := by
      simp [iNe_eq] at hf
      omega
    rw [if_pos hf'] at hM
    rw [hM]
    conv => whnf
    exact relNW_nil
  have hf' : fe = 0 := by
    simp [iNe_eq] at hf
    omega
  rw [if_neg (by omega)] at hM
  have hds := dirR_small d at0
  have hdn := dirR_names d at0
  have hdp := dirO_spec d h hh hl at0
  generalize dirR d at0 = dr at *
  obtain ⟨es, de⟩ := dr
  dsimp only at hM hds hdn hdp
  conv => whnf
  refine XCall.pure hdp (fun w hw => hw.1) (fun v D hv => ?_)
  obtain ⟨a, cap, C, rfl, hO, rfl⟩ := hv
  conv => whnf
  refine XIf.split (fun hd => ?_) (fun hd => ?_)
  · have hd' : de ≠ 0 := by
      simp [iNe_eq] at hd
      omega
    rw [if_pos hd'] at hM
    rw [hM]
    conv => whnf
    exact relNW_nil
  have hd' : de = 0 := by
    simp [iNe_eq] at hd
    omega
  rw [if_neg (by omega)] at hM
  have hOk : (⟨a, cap⟩ : Hd).Ok es.length := ⟨fun ha => hO.none_nil ha, hO.fit⟩
  conv => whnf
  refine XCall.ent (F' := ⟨fun w => By w h d, [] ++ orow a C ++ []⟩) (Ent.of_le ⟨by simp [Fx.and], fun w hw => hw.1.1⟩) ?_
  refine XCall.look (find38_spec es ⟨a, cap⟩ hOk (by omega) last) (Loc.row _ _) (fun w hst => hO.at hst) ?_
  generalize hfi : fidx es last = fi at hM
  cases fi with
  | some q =>
    rw [if_pos (by simp)] at hM
    rw [hM]
    obtain ⟨z, hz⟩ : ∃ z : Int, z = fint (some q) := ⟨_, rfl⟩
    rw [← hz]
    have hz : z = (q : Int) := hz
    conv => whnf
    refine XIf.yes (by subst hz; simp [iGe_eq]) ?_
    conv => whnf
    exact relNW_nil
  | none =>
  rw [if_neg (by simp)] at hM
  obtain ⟨z, hz⟩ : ∃ z : Int, z = fint none := ⟨_, rfl⟩
  rw [← hz]
  have hz : z = -1 := hz
  conv => whnf
  refine XIf.no (by subst hz; simp [iGe_eq]) ?_
  conv => whnf
  refine XCall.look (find38_spec es ⟨a, cap⟩ hOk (by omega) []) (Loc.row _ _) (fun w hst => hO.at hst) ?_
  generalize hfi2 : fidx es [] = fi2 at hM
  cases fi2 with
  | none =>
    dsimp only at hM
    rw [hM]
    obtain ⟨z2, hz2⟩ : ∃ z : Int, z = fint none := ⟨_, rfl⟩
    rw [← hz2]
    have hz2 : z2 = -1 := hz2
    conv => whnf
    refine XIf.yes (by subst hz2; simp [iLt_eq]) ?_
    conv => whnf
    exact relNW_nil
  | some q =>
  dsimp only at hM
  have hq := fidx_lt hfi2
  obtain ⟨z2, hz2⟩ : ∃ z : Int, z = fint (some q) := ⟨_, rfl⟩
  rw [← hz2]
  have hz2 : z2 = (q : Int) := hz2
  conv => whnf
  refine XIf.no (by subst hz2; simp [iLt_eq]) ?_
  conv => whnf
  have hal := alloc37_spec d h hh hl kind.toNat (by omega)
  rw [show ((kind.toNat : Nat) : Int) = kind by omega] at hal
  have hall := allocR_len d kind.toNat
  generalize allocR d kind.toNat = al at *
  obtain ⟨n, d2, ae⟩ := al
  dsimp only at hM hal hall
  refine XCall.pure hal (fun w hw => hw) (fun v D hv => ?_)
  obtain ⟨k2, rfl, hk2, rfl⟩ := hv
  conv => whnf
  refine XIf.split (fun ha => ?_) (fun ha => ?_)
  · have ha' : ae ≠ 0 := by
      simp [iNe_eq] at ha
      omega
    rw [if_pos ha'] at hM
    rw [hM]
    conv => whnf
    exact relNW_nil
  have ha' : ae = 0 := by
    simp [iNe_eq] at ha
    omega
  rw [if_neg (by omega)] at hM
  obtain ⟨bb, rfl⟩ := own_some hO (by omega)
  obtain ⟨hle, hO2⟩ := Own.setEn hO hq rfl (last, n)
  conv => whnf
  refine XVal.of_read (XRead.index tabOk (t := 127) rfl rfl rfl (by omega) (by omega) (fun h => by cases h) fun ad2 had2 => ?_)
  cases had2
  conv => whnf
  refine XUnit.ent (F' := ⟨fun w => By w h d ∧ By w k2 d2, [] ++ [(bb, Row.c C)] ++ []⟩) (Ent.of_le ⟨by simp [Fx.and, orow], fun w hw => hw⟩) ?_
  refine XUnit.storeIn tabOk (t := 132) rfl (r1 := []) (r2 := []) (b := bb) (k := 2 * q) (C := C) (by rw [Addr.add_none, hz2]; simp; omega) rfl (by simp [Value.cells, strV, oneCell]) hle ?_
  conv => whnf
  refine XCall.ent (F' := ⟨fun w => (By w h d ∧ By w k2 d2) ∧ RowAt w (some ⟨bb, 0, none⟩) (enCs (es.set q (last, n))), []⟩) ?_ ?_
  · have hg := Own.gives hO2 (D := fun w => By w h d ∧ By w k2 d2)
    exact hg
  have hsl : (es.set q (last, n)).length = es.length := by simp
  have hesn : ∀ e ∈ es.set q (last, n), e.1.length ≤ 14 := by
    intro e he
    rcases List.mem_or_eq_of_mem_set he with h5 | h5
    · exact hdn e h5
    · rw [h5]
      exact (vname_len hlv).2
  have hec := encode_spec (es.set q (last, n)) ⟨some ⟨bb, 0, none⟩, cap⟩ (by rw [hsl]; exact hOk) (by omega) hesn
  have hel := encB_len hesn
  rw [hsl] at hec hel
  generalize encB (es.set q (last, n)) = data at *
  refine XCall.pure hec (fun w hw => hw.2) (fun v D hv => ?_)
  obtain ⟨k3, rfl, hk3, rfl⟩ := hv
  conv => whnf
  have hwr := write37W_spec d2 k2 hk2 (by omega) at0 0 rfl data k3 hk3 (by omega)
  generalize writeR d2 at0 data = wr at *
  obtain ⟨d3, we⟩ := wr
  dsimp only at hM hwr
  refine XCall.pure hwr (fun w hw => ⟨hw.1.1.2, hw.2⟩) (fun v D hv => ?_)
  rw [hM]
  rcases hv with ⟨b4, c4, Z4, rfl, hc4, rfl⟩ | ⟨rfl, rfl, rfl⟩
  · conv => whnf
    exact ⟨⟨fun _ => True, [(b4, Row.c (d3.map byteV ++ Z4))]⟩, Ent.of_le ⟨by simp [Fx.and], fun w hw => trivial⟩, .inl ⟨b4, c4, Z4, rfl, hc4, rfl⟩⟩
  · conv => whnf
    exact relNW_no

theorem make38_spec (d : List UInt8) (h : Hd) (hh : h.Ok d.length) (hl : d.length ≤ 1000000) (p : List UInt8) (hp : p.length ≤ 200) (kind : Int) :
    PureSpec Tryz.prog 35 [h.v d.length, strV p, .int .i64 kind] (fun w => By w h d) (RelN (makeR d p kind).1 (makeR d p kind).2.1 (makeR d p kind).2.2) := relNW_down (make38W_spec d h hh hl p hp kind)

end Go.Proofs.YtfeoedkmndkbjaaGreatDoor
namespace Go.Proofs.YtfeoedkmndkbjaaGreatDoor
open Go Go.Sx
set_option maxRecDepth 100000
set_option maxHeartbeats 4000000
set_option linter.unusedVariables false
set_option linter.unusedSimpArgs false

end Go.Proofs.YtfeoedkmndkbjaaGreatDoor
namespace Go.Proofs.YtfeoedkmndkbjaaGreatDoor
open Go Go.Sx
set_option maxRecDepth 100000
set_option maxHeartbeats 4000000
set_option linter.unusedVariables false
set_option linter.unusedSimpArgs false

noncomputable def walkR (d : List UInt8) (p : List UInt8) : Nat × Nat :=
  if chk38 d ≠ 0 then (0, chk38 d) else if (splitR p).2 ≠ 0 then (0, 15) else followR d (splitR p).1 0

end Go.Proofs.YtfeoedkmndkbjaaGreatDoor
namespace Go.Proofs.YtfeoedkmndkbjaaGreatDoor
open Go Go.Sx
set_option maxRecDepth 100000
set_option maxHeartbeats 4000000
set_option linter.unusedVariables false
set_option linter.unusedSimpArgs false

def superB : List UInt8 := lay (List.replicate 128 0) 0 [82, 70, 83, 49]

def SlotOk (d : List UInt8) (n : Nat) : Prop := allZ (cut d (1792 + 16 * n) 16) = true ∨ (rp d n = 0 ∧ PropOk d (rk d n) (rs d n) (rb d n) (used d n))

/-- The bitmap that the program makes. -/
def bmP (us : List Nat) : Nat → List UInt8
  | 0 => List.replicate 128 0
  | n + 1 => if n < 18 ∨ n ∈ us then putB (bmP us n) n true else bmP us n

theorem bmP_len (us : List Nat) : ∀ n, (bmP us n).length = 128
  | 0 => by simp [bmP]
  | n + 1 => by
    unfold bmP
    split
    · rw [putB_len, bmP_len us n]
    · exact bmP_len us n

/-- What the program asks of a disk. -/
structure OkP (d : List UInt8) : Prop where
  super : cut d 0 128 = superB
  slot : ∀ n, n < 32 → SlotOk d n
  bits : cut d 1664 128 = bmP (used d 32) 96
  root : rk d 0 = 2

noncomputable instance (d : List UInt8) : Decidable (OkP d) := Classical.propDecidable _

noncomputable def chkP (d : List UInt8) : Nat := if d.length = 12288 then (if OkP d then 0 else 4) else 1

/-- The cells of the inodes. -/
def inoCs (d : List UInt8) : Nat → List Value
  | 0 => []
  | n + 1 => inoCs d n ++ inoL (rk d n) (rs d n) (rb d n)

theorem inoCs_len (d : List UInt8) : ∀ n, (inoCs d n).length = 14 * n
  | 0 => rfl
  | n + 1 => by
    unfold inoCs
    rw [List.length_append, inoCs_len d n]
    simp [inoL]
    omega

/-- A view's cells while it is made. -/
def viewC (d : List UInt8) (x y : Value) (n : Nat) : List Value := x :: (inoCs d n ++ List.replicate (14 * (32 - n)) (intV 0) ++ [y])

theorem viewC_len (d : List UInt8) (x y : Value) {n : Nat} (hn : n ≤ 32) : (viewC d x y n).length = 450 := by
  simp [viewC, inoCs_len]
  omega

theorem viewC_next (d : List UInt8) (x y : Value) {n : Nat} (hn : n < 32) : laid (viewC d x y n) (1 + 14 * n) (inoL (rk d n) (rs d n) (rb d n)) = viewC d x y (n + 1) := by
  have hl : (inoL (rk d n) (rs d n) (rb d n)).length = 14 := rfl
  have hsplit : List.replicate (14 * (32 - n)) (intV 0) = List.replicate 14 (intV 0) ++ List.replicate (14 * (32 - (n + 1))) (intV 0) := by
    rw [List.replicate_append_replicate]
    congr 1
    omega
  have e1 : viewC d x y n = (x :: inoCs d n) ++ (List.replicate 14 (intV 0) ++ (List.replicate (14 * (32 - (n + 1))) (intV 0) ++ [y])) := by
    unfold viewC
    rw [hsplit]
    simp
  have e2 : viewC d x y (n + 1) = (x :: inoCs d n) ++ (inoL (rk d n) (rs d n) (rb d n) ++ (List.replicate (14 * (32 - (n + 1))) (intV 0) ++ [y])) := by
    unfold viewC
    show x :: (inoCs d n ++ inoL _ _ _ ++ _ ++ _) = _
    simp
  have hp : (x :: inoCs d n).length = 1 + 14 * n := by
    rw [List.length_cons, inoCs_len]
    omega
  rw [e1, e2]
  unfold laid
  rw [hl, ← hp, List.take_left, List.drop_append, List.drop_of_length_le (by omega), Nat.add_sub_cancel_left, List.nil_append, List.drop_append, List.drop_of_length_le (by simp)]
  simp

theorem slot_zero {d : List UInt8} (hd : d.length = 12288) {n : Nat} (hn : n < 32) (h : allZ (cut d (1792 + 16 * n) 16) = true) : rk d n = 0 ∧ rs d n = 0 ∧ (∀ i, i < 12 → rb d n i = 0) ∧ rp d n = 0 := by
  have hz := allZ_iff.1 h
  rw [cut_len (by omega)] at hz
  have hb : ∀ i, i < 16 → byt d (1792 + 16 * n + i) = 0 := fun i hi => by
    have := hz i hi
    rwa [byt_cut (by omega) hi] at this
  refine ⟨hb 0 (by omega), ?_, fun i hi => hb (3 + i) (by omega), hb 15 (by omega)⟩
  unfold rs
  rw [hb 1 (by omega), hb 2 (by omega)]

theorem viewC_skip (d : List UInt8) (x y : Value) {n : Nat} (hn : n < 32) (h : rk d n = 0 ∧ rs d n = 0 ∧ ∀ i, i < 12 → rb d n i = 0) : viewC d x y n = viewC d x y (n + 1) := by
  have hsplit : List.replicate (14 * (32 - n)) (intV 0) = List.replicate 14 (intV 0) ++ List.replicate (14 * (32 - (n + 1))) (intV 0) := by
    rw [List.replicate_append_replicate]
    congr 1
    omega
  have hi : inoL (rk d n) (rs d n) (rb d n) = List.replicate 14 (intV 0) := by
    rw [h.1, h.2.1, ino_congr (b' := fun _ => 0) fun i hi => h.2.2 i hi]
    rfl
  unfold viewC
  rw [hsplit]
  show _ = x :: (inoCs d n ++ inoL _ _ _ ++ _ ++ _)
  rw [hi]
  simp

theorem used_skip (d : List UInt8) {n : Nat} (h : ∀ i, i < 12 → rb d n i = 0) : used d (n + 1) = used d n := by
  show used d n ++ part d n 12 = _
  have : part d n 12 = [] := by
    unfold part
    rw [List.filter_eq_nil_iff]
    intro x hx
    obtain ⟨i, hi, rfl⟩ := List.mem_map.1 hx
    simp [h i (List.mem_range.1 hi)]
  rw [this, List.append_nil]

theorem inoCs_0 (d : List UInt8) : ∀ n, (inoCs d (n + 1))[0]? = some (intV (rk d 0))
  | 0 => rfl
  | n + 1 => by
    show (inoCs d (n + 1) ++ _)[0]? = _
    rw [List.getElem?_append_left (by rw [inoCs_len]; omega)]
    exact inoCs_0 d n

theorem viewC_one (d : List UInt8) (x y : Value) : (viewC d x y 32)[1]? = some (intV (rk d 0)) := by
  unfold viewC
  rw [List.getElem?_cons_succ, List.append_assoc, List.getElem?_append_left (by rw [inoCs_len]; omega)]
  exact inoCs_0 d 31

theorem viewC_last (d : List UInt8) (x y y' : Value) : laid (viewC d x y 32) 449 [y'] = viewC d x y' 32 := by
  have e : ∀ z, viewC d x z 32 = (x :: inoCs d 32) ++ [z] := fun z => by simp [viewC]
  have hp : (x :: inoCs d 32).length = 449 := by rw [List.length_cons, inoCs_len]
  rw [e, e]
  unfold laid
  rw [← hp, List.take_left, List.drop_append, List.drop_of_length_le (by omega), Nat.add_sub_cancel_left]
  simp

/-- A view (or nil) and an error. -/
def RelV (d : List UInt8) (e : Nat) (v : Value) (F : Fx) : Prop :=
  if e = 0 then ∃ bd bv bb cap Z, v = .tuple #[.pointer (some ⟨bv, 0, none⟩), .int .i64 (e : Int)] ∧ d.length ≤ cap ∧
    F = ⟨fun _ => True, [(bd, Row.c (d.map byteV ++ Z)), (bv, Row.c (viewC d (.slice (some ⟨bd, 0, none⟩) d.length cap) (.slice (some ⟨bb, 0, none⟩) 12 128) 32)), (bb, Row.c ((bmP (used d 32) 96).map byteV ++ []))]⟩
  else v = .tuple #[.pointer none, .int .i64 (e : Int)] ∧ F = ⟨fun _ => True, []⟩

theorem relV_bad {d : List UInt8} {D : World → Prop} {rs : List (Nat × Row)} {e : Nat} (h : e ≠ 0) : ∃ F', Ent ⟨D, rs⟩ F' ∧ RelV d e (.tuple #[.pointer none, .int .i64 (e : Int)]) F' := by
  refine ⟨⟨fun _ => True, []⟩, Ent.bare fun _ _ => trivial, ?_⟩
  unfold RelV
  rw [if_neg h]
  exact ⟨rfl, rfl⟩

theorem open37_spec (d : List UInt8) (h : Hd) (hh : h.Ok d.length) (hl : d.length ≤ 1000000) : PureSpec Tryz.prog 121 [h.v d.length] (fun w => By w h d) (RelV d (chkP d)) := by
  refine PureSpec.of_xc tabOk Tryz.func121 rfl (by decide) (n := Tryz.f121.ntmps - 1) rfl rfl fun w0 av => ?_
  conv => whnf
  refine XIf.split (fun h1 => ?_) (fun h1 => ?_)
  · have hne : d.length ≠ 12288 := by
      simp [iNe_eq] at h1
      omega
    have : chkP d = 1 := by
      unfold chkP
      rw [if_neg hne]
    rw [this]
    conv => whnf
    exact relV_bad (by decide)
  have hd : d.length = 12288 := by
    simp [iNe_eq] at h1
    omega
  have hbad : ∀ (D : World → Prop) (rs : List (Nat × Row)), ¬ OkP d → ∃ F', Ent ⟨D, rs⟩ F' ∧ RelV d (chkP d) (.tuple #[.pointer none, .int .i64 4]) F' := fun D rs hn => by
    have : chkP d = 4 := by
      unfold chkP
      rw [if_pos hd, if_neg hn]
    rw [this]
    exact relV_bad (by decide)
  conv => whnf
  refine XCall.pure (clone_spec d h hh (by omega) hl) (fun w hw => hw) (fun v D hv => ?_)
  obtain ⟨bd, cap, Z, rfl, hcap, rfl⟩ := hv
  conv => whnf
  refine XVal.of_read (XRead.buildBig tabOk (t := 105) rfl rfl ?_)
  conv => whnf
  refine XVal.boxRow fun bv => ?_
  conv => whnf
  obtain ⟨X, hX⟩ : ∃ X : Value, X = .slice (some ⟨bd, 0, none⟩) d.length cap := ⟨_, rfl⟩
  refine XVal.ent (F' := ⟨fun _ => True, [(bd, Row.c (d.map byteV ++ Z)), (bv, Row.c (viewC d X (.slice none 0 0) 0))]⟩) (Ent.of_le ⟨by rw [hX]; exact List.Sublist.refl _, fun w _ => trivial⟩) ?_
  have hVX : ∀ n y, (viewC d X y n)[0]? = some (.slice (some ⟨bd, 0, none⟩) d.length cap) := fun n y => by rw [← hX]; rfl
  have hok : (⟨some ⟨bd, 0, none⟩, cap⟩ : Hd).Ok d.length := ⟨fun h => (by cases h), hcap⟩
  refine XVal.makeBytes tabOk (t := 23) rfl rfl rfl rfl rfl rfl 128 rfl rfl (by decide) (by decide) fun bs0 => ?_
  conv => whnf
  refine XVal.copyStr tabOk (t := 23) rfl rfl rfl rfl (r1 := [(bd, Row.c (d.map byteV ++ Z)), (bv, Row.c (viewC d X (.slice none 0 0) 0))]) (r2 := []) (b := bs0) (k := 0) (l := List.replicate 128 0) (m := [82, 70, 83, 49]) (Z := []) rfl (by decide) (by decide) ?_
  conv => whnf
  refine XCall.look (vblock_spec bv _ ⟨some ⟨bd, 0, none⟩, cap⟩ d.length (hVX 0 (.slice none 0 0)) hok hd 0 (by decide)) (Loc.row _ _) (fun w hst => Sees.row (by simp) w hst) ?_
  conv => whnf
  have hsl : superB.length = 128 := by decide
  have hcl : (cut d (128 * 0) 128).length = 128 := cut_len (by omega)
  have heq := equal_spec (cut d (128 * 0) 128) superB (Hd.sub ⟨some ⟨bd, 0, none⟩, cap⟩ (128 * 0)) ⟨some ⟨bs0, 0, none⟩, 128⟩ (by rw [hcl]; exact Hd.sub_ok hok (by omega)) (by rw [hsl]; exact ⟨fun h => (by cases h), Nat.le_refl _⟩)
  rw [hcl, hsl] at heq
  refine XCall.look heq (Loc.and (Loc.row _ _) (Loc.row _ _)) (fun w hst => ⟨?_, ?_⟩) ?_
  · exact By.sub (Sees.bytes (Z := Z) (by simp) w hst) (by dsimp only; omega)
  · exact Sees.bytes (Z := []) (by simp [superB]) w hst
  generalize hsq : (cut d (128 * 0) 128 == superB) = sq
  cases sq
  · conv => whnf
    exact hbad _ _ fun ho => by
      have := ho.super
      rw [show 128 * 0 = 0 from rfl, this] at hsq
      simp at hsq
  have hsup : cut d 0 128 = superB := by simpa using hsq
  conv => whnf
  refine XVal.ent (F' := ⟨fun _ => True, [(bd, Row.c (d.map byteV ++ Z)), (bv, Row.c (viewC d X (.slice none 0 0) 0))]⟩) (Ent.of_le ⟨by simp, fun w _ => trivial⟩) ?_
  refine XVal.makeMapG fun bm => ?_
  conv => whnf
  refine XStop.loop tabOk (ι := Nat) ([7, 8, 9] ++ List.range' 28 28) (fun n => n ≤ 32 ∧ (∀ m, m < n → SlotOk d m) ∧ (used d n).Nodup)
    (fun n => [(28, .v (.int .i64 (n : Int)))]) (fun _ => []) (fun n => ⟨fun _ => True, [(bd, Row.c (d.map byteV ++ Z)), (bv, Row.c (viewC d X (.slice none 0 0) n))] ++ [(bm, Row.m (mapG (usedKV (used d n))) (usedKV (used d n)).length)] ++ []⟩)
    (fun n => 32 - n) 0 ⟨Nat.zero_le _, fun m hm => by omega, List.nodup_nil⟩ ?_ rfl (Ent.refl _) fun n hn => ?_
  · conv => whnf
    repeat (first | exact FLe.nil | refine FLe.any ?_ | refine FLe.cons ?_)
  obtain ⟨hn, hall, hnd⟩ := hn
  conv => whnf
  refine XIf.split (fun hlt => ?_) (fun hlt => ?_)
  · have hlt' : n < 32 := by
      simp only [iLt_eq, decide_eq_true_eq] at hlt
      omega
    have hok16 : (Hd.sub ⟨some ⟨bd, 0, none⟩, cap⟩ (1792 + 16 * n)).Ok 16 := Hd.sub_ok hok (by omega)
    have hc16 : (cut d (1792 + 16 * n) 16).length = 16 := cut_len (by omega)
    have hzs := zero_spec (cut d (1792 + 16 * n) 16) (Hd.sub ⟨some ⟨bd, 0, none⟩, cap⟩ (1792 + 16 * n)) (by rw [hc16]; exact hok16) (by omega)
    have hps := parse_spec (cut d (1792 + 16 * n) 16) (Hd.sub ⟨some ⟨bd, 0, none⟩, cap⟩ (1792 + 16 * n)) (by rw [hc16]; exact hok16) hc16
    rw [hc16] at hzs hps
    have hino : inoL (byt (cut d (1792 + 16 * n) 16) 0) (256 * byt (cut d (1792 + 16 * n) 16) 1 + byt (cut d (1792 + 16 * n) 16) 2) (fun i => byt (cut d (1792 + 16 * n) 16) (3 + i)) = inoL (rk d n) (rs d n) (rb d n) := by
      rw [byt_cut (by omega) (by omega), byt_cut (by omega) (by omega), byt_cut (by omega) (by omega)]
      rw [ino_congr (b' := rb d n) fun i hi => by rw [byt_cut (by omega) (by omega)]; rfl]
      rfl
    rw [hino] at hps
    conv => whnf
    refine XCall.look (place_spec bv _ ⟨some ⟨bd, 0, none⟩, cap⟩ d.length (hVX n (.slice none 0 0)) hok hd n hlt') (Loc.row _ _) (fun w hst => Sees.row (by simp) w hst) ?_
    conv => whnf
    refine XCall.look hzs (Loc.row _ _) (fun w hst => By.sub (Sees.bytes (Z := Z) (by simp) w hst) (by dsimp only; omega)) ?_
    generalize hz : allZ (cut d (1792 + 16 * n) 16) = cz
    cases cz
    rotate_left
    · obtain ⟨z1, z2, z3, z4⟩ := slot_zero hd hlt' hz
      conv => whnf
      refine ⟨n + 1, ⟨⟨hlt', fun m hm => ?_, by rw [used_skip d z3]; exact hnd⟩, by dsimp only; omega⟩, ?_, ?_, ?_⟩
      · rcases Nat.lt_or_eq_of_le (Nat.lt_succ_iff.1 hm) with h5 | h5
        · exact hall m h5
        · rw [h5]; exact .inl hz
      · conv => whnf
        refine ⟨?_, rfl⟩
        repeat (first | exact FLe.nil | refine FLe.any ?_ | refine FLe.cons ?_ | refine FLe.eq (by rw [wrap_i64 (by omega)]; rfl) ?_)
      · conv => whnf
        exact trivial
      · dsimp only
        rw [used_skip d z3, ← viewC_skip d X (.slice none 0 0) hlt' ⟨z1, z2, z3⟩]
        exact Ent.refl _
    conv => whnf
    refine XCall.look hps (Loc.row _ _) (fun w hst => By.sub (Sees.bytes (Z := Z) (by simp) w hst) (by dsimp only; omega)) ?_
    conv => whnf
    intro b9
    conv => whnf
    refine XVal.of_read (XRead.byteAt tabOk (t := 23) rfl rfl rfl rfl 15 rfl (by decide) hok16 fun ad had => ?_)
    conv => whnf
    refine XVal.of_read (XRead.byteLd' tabOk (t := 5) rfl rfl had (l := cut d (1792 + 16 * n) 16) (fun w hst => By.sub (Sees.bytes (Z := Z) (by simp) w hst) (by dsimp only; omega)) rfl (by omega) ?_)
    rw [byt_cut (show 1792 + 16 * n + 16 ≤ d.length by omega) (show 15 < 16 by omega)]
    conv => whnf
    repeat (refine XSame.of ?_; conv => whnf)
    generalize hp : iNe (byt d (1792 + 16 * n + 15) : Int) 0 = cp
    cases cp
    rotate_left
    · conv => whnf
      repeat (refine XSame.of ?_; conv => whnf)
      repeat' (first
        | (refine XIf.yes rfl ?_; conv => whnf)
        | (refine XIf.no rfl ?_; conv => whnf))
      exact hbad _ _ fun ho => by
        rcases ho.slot n hlt' with h5 | h5
        · rw [hz] at h5
          cases h5
        · have := h5.1
          unfold rp at this
          rw [this] at hp
          simp [iNe_eq] at hp
    have hp' : rp d n = 0 := by
      unfold rp
      simp [iNe_eq] at hp
      omega
    have hsl := rs_lt d n
    have hbl := rb_lt d n
    conv => whnf
    repeat (refine XSame.of ?_; conv => whnf)
    refine proper_call (k := rk d n) (s := rs d n) (b := rb d n) (us := used d n) hd hcap (hVX n (.slice none 0 0)) (by omega) (fun i => by have := hbl i; omega) hnd (fun hP => ?_) (fun hP vs => ?_)
    · have hu : used d n ++ prt (rb d n) 12 = used d (n + 1) := rfl
      rw [hu]
      have hnd2 : (used d (n + 1)).Nodup := hP.nodup
      have hS : SlotOk d n := .inr ⟨hp', hP⟩
      have hvn := viewC_next d X (.slice none 0 0) hlt'
      have hvl := viewC_len d X (.slice none 0 0) (show n ≤ 32 by omega)
      conv => whnf
      repeat (refine XSame.of ?_; conv => whnf)
      repeat' (first
        | (refine XIf.no rfl ?_; conv => whnf)
        | (refine XIf.yes rfl ?_; conv => whnf))
      refine XStop.draw tabOk mixed rfl rfl ?_
      conv => whnf
      repeat' (first
        | (refine And.intro ?_ ?_ <;> conv => whnf)
        | (refine XHeld.same rfl ?_; conv => whnf)
        | (refine XHeld.row rfl ?_; conv => whnf)
        | (refine XHeld.call rfl ?_; conv => whnf)
        | (refine XKeep.of ?_; conv => whnf)
        | (refine XSame.of ?_; conv => whnf)
        | (refine XRead.indexArr tabOk (t := 103) rfl rfl rfl n rfl hlt' rfl ?_; conv => whnf)
        | (refine XHeld.mk ?_ ?_; (focus (first | exact Ent.refl _ | exact Ent.left _ _ | exact Ent.of_le ⟨List.sublist_append_left _ _, fun w h => h⟩ | exact Ent.of_le ⟨List.Sublist.refl _, fun w h => h.1⟩)); conv => whnf))
      refine XUnit.storeIn tabOk (t := 82) rfl (r1 := [(bd, Row.c (d.map byteV ++ Z))]) (r2 := [(bm, Row.m (mapG (usedKV (used d (n + 1)))) (usedKV (used d (n + 1))).length)]) (b := bv) (k := 1 + 14 * n) (C := viewC d X (.slice none 0 0) n) (v := .agg ⟨inoL (rk d n) (rs d n) (rb d n)⟩) (by show (Addr.add ⟨bv, 0, none⟩ 1).add (n * 14) = _; simp only [Addr.add_none]; rw [Nat.zero_add, Nat.mul_comm]) rfl (by simp [Value.cells, inoL, intV, oneCell]) (by rw [hvl]; show _ + 14 ≤ _; omega) ?_
      rw [show laid (viewC d X (.slice none 0 0) n) (1 + 14 * n) (Value.agg ⟨inoL (rk d n) (rs d n) (rb d n)⟩).cells.toList = viewC d X (.slice none 0 0) (n + 1) from hvn]
      conv => whnf
      repeat (refine XSame.of ?_; conv => whnf)
      refine ⟨n + 1, ⟨⟨hlt', fun m hm => ?_, hnd2⟩, by dsimp only; omega⟩, ?_, ?_, ?_⟩
      · rcases Nat.lt_or_eq_of_le (Nat.lt_succ_iff.1 hm) with h5 | h5
        · exact hall m h5
        · rw [h5]; exact hS
      · conv => whnf
        refine ⟨?_, rfl⟩
        repeat (first | exact FLe.nil | refine FLe.any ?_ | refine FLe.cons ?_ | refine FLe.eq (by rw [wrap_i64 (by omega)]; rfl) ?_)
      · conv => whnf
        exact trivial
      · exact Ent.refl _
    · conv => whnf
      repeat (refine XSame.of ?_; conv => whnf)
      repeat' (first
        | (refine XIf.yes rfl ?_; conv => whnf)
        | (refine XIf.no rfl ?_; conv => whnf))
      exact hbad _ _ fun ho => by
        rcases ho.slot n hlt' with h5 | h5
        · rw [hz] at h5
          cases h5
        · exact hP h5.2
  · have hie : n = 32 := by
      simp only [iLt_eq, decide_eq_false_iff_not] at hlt
      omega
    subst hie
    conv => whnf
    refine XVal.makeBytes tabOk (t := 23) rfl rfl rfl rfl rfl rfl 128 rfl rfl (by decide) (by decide) fun bb => ?_
    conv => whnf
    have hus : ∀ n, (bmP (used d 32) n).length = 128 := bmP_len _
    generalize hu : used d 32 = us at *
    refine XStop.loop tabOk (ι := Nat) ([11] ++ List.range' 57 21) (fun n => n ≤ 96)
      (fun n => [(57, .v (.int .i64 (n : Int)))]) (fun _ => []) (fun n => ⟨fun _ => True, [(bd, Row.c (d.map byteV ++ Z)), (bv, Row.c (viewC d X (.slice none 0 0) 32))] ++ [(bm, Row.m (mapG (usedKV us)) (usedKV us).length)] ++ [(bb, Row.c ((bmP us n).map byteV ++ []))]⟩)
      (fun n => 96 - n) 0 (Nat.zero_le _) ?_ rfl (Ent.refl _) fun n hn => ?_
    · conv => whnf
      repeat (first | exact FLe.nil | refine FLe.any ?_ | refine FLe.cons ?_)
    conv => whnf
    refine XIf.split (fun hlt2 => ?_) (fun hlt2 => ?_)
    · have hlt' : n < 96 := by
        simp only [iLt_eq, decide_eq_true_eq] at hlt2
        omega
      have hw : IntKind.i64.wrap (Int.tdiv (n : Int) (Int.ofNat 8)) = ((n / 8 : Nat) : Int) := wdiv n 8 (by omega)
      have hm : Int.tmod (n : Int) (Int.ofNat 8) = ((n % 8 : Nat) : Int) := tmod_nat n 8
      have h8 : n % 8 < 8 := Nat.mod_lt _ (by decide)
      have hbl := hus n
      conv => whnf
      repeat (refine XSame.of ?_; conv => whnf)
      generalize hc : iLt (n : Int) 18 = c
      by_cases hq : n < 18 ∨ n ∈ us
      · have hb1 : bmP us (n + 1) = putB (bmP us n) n true := if_pos hq
        cases c
        · have hmem : n ∈ us := by
            simp only [iLt_eq, decide_eq_false_iff_not] at hc
            rcases hq with h5 | h5
            · omega
            · exact h5
          conv => whnf
          repeat (refine XSame.of ?_; conv => whnf)
          refine XVal.of_read (XRead.lookupIn tabOk (t := 182) rfl rfl rfl rfl (SeesM.row (by simp)) rfl (usedKV_key us) (v := .bool true) usedKV_val ⟨(intV n, .bool true), List.mem_map.2 ⟨_, hmem, rfl⟩, rfl⟩ ?_)
          conv => whnf
          repeat (refine XSame.of ?_; conv => whnf)
          refine XStop.draw tabOk mixed rfl rfl ?_
          conv => whnf
          repeat' (first
            | (refine And.intro ?_ ?_ <;> conv => whnf)
            | (refine XHeld.same rfl ?_; conv => whnf)
            | (refine XHeld.row rfl ?_; conv => whnf)
            | (refine XHeld.call rfl ?_; conv => whnf)
            | (refine XKeep.of ?_; conv => whnf)
            | (refine XSame.of ?_; conv => whnf)
            | (refine XRead.rowIx tabOk (t := 23) rfl rfl rfl rfl (n / 8) hw (by omega) ?_; conv => whnf)
            | (refine XRead.rowLd tabOk (t := 5) rfl rfl (l := bmP us n) (Sees.bytes (Z := []) (by simp)) (by omega) ?_; conv => whnf)
            | (refine XRead.shl (j := n % 8) hm (by show n % 8 ≤ 8; omega) ?_; conv => whnf)
            | (refine XUnit.storeByte tabOk (t := 5) rfl rfl (r1 := [(bd, Row.c (d.map byteV ++ Z)), (bv, Row.c (viewC d X (.slice none 0 0) 32)), (bm, Row.m (mapG (usedKV us)) (usedKV us).length)]) (r2 := []) (l := bmP us n) (Z := []) (onN (byt (bmP us n) (n / 8)) (n % 8)) rfl (or_bit (byt_lt _ _) h8) (onN_lt (byt_lt _ _) h8) (by omega) ?_; conv => whnf)
            | (refine XHeld.mk ?_ ?_; (focus (first | exact Ent.refl _ | exact Ent.left _ _ | exact Ent.of_le ⟨List.sublist_append_left _ _, fun w h => h⟩ | exact Ent.of_le ⟨List.Sublist.refl _, fun w h => h.1⟩)); conv => whnf))
          rw [show bput (bmP us n) (n / 8) (onN (byt (bmP us n) (n / 8)) (n % 8)) = bmP us (n + 1) from hb1.symm]
          conv => whnf
          repeat (refine XSame.of ?_; conv => whnf)
          refine ⟨n + 1, ⟨hlt', by dsimp only; omega⟩, ?_, ?_, ?_⟩
          · conv => whnf
            refine ⟨?_, rfl⟩
            repeat (first | exact FLe.nil | refine FLe.any ?_ | refine FLe.cons ?_ | refine FLe.eq (by rw [wrap_i64 (by omega)]; rfl) ?_)
          · conv => whnf
            exact trivial
          · exact Ent.refl _
        · conv => whnf
          repeat (refine XSame.of ?_; conv => whnf)
          refine XStop.draw tabOk mixed rfl rfl ?_
          conv => whnf
          repeat' (first
            | (refine And.intro ?_ ?_ <;> conv => whnf)
            | (refine XHeld.same rfl ?_; conv => whnf)
            | (refine XHeld.row rfl ?_; conv => whnf)
            | (refine XHeld.call rfl ?_; conv => whnf)
            | (refine XKeep.of ?_; conv => whnf)
            | (refine XSame.of ?_; conv => whnf)
            | (refine XRead.rowIx tabOk (t := 23) rfl rfl rfl rfl (n / 8) hw (by omega) ?_; conv => whnf)
            | (refine XRead.rowLd tabOk (t := 5) rfl rfl (l := bmP us n) (Sees.bytes (Z := []) (by simp)) (by omega) ?_; conv => whnf)
            | (refine XRead.shl (j := n % 8) hm (by show n % 8 ≤ 8; omega) ?_; conv => whnf)
            | (refine XUnit.storeByte tabOk (t := 5) rfl rfl (r1 := [(bd, Row.c (d.map byteV ++ Z)), (bv, Row.c (viewC d X (.slice none 0 0) 32)), (bm, Row.m (mapG (usedKV us)) (usedKV us).length)]) (r2 := []) (l := bmP us n) (Z := []) (onN (byt (bmP us n) (n / 8)) (n % 8)) rfl (or_bit (byt_lt _ _) h8) (onN_lt (byt_lt _ _) h8) (by omega) ?_; conv => whnf)
            | (refine XHeld.mk ?_ ?_; (focus (first | exact Ent.refl _ | exact Ent.left _ _ | exact Ent.of_le ⟨List.sublist_append_left _ _, fun w h => h⟩ | exact Ent.of_le ⟨List.Sublist.refl _, fun w h => h.1⟩)); conv => whnf))
          rw [show bput (bmP us n) (n / 8) (onN (byt (bmP us n) (n / 8)) (n % 8)) = bmP us (n + 1) from hb1.symm]
          conv => whnf
          repeat (refine XSame.of ?_; conv => whnf)
          refine ⟨n + 1, ⟨hlt', by dsimp only; omega⟩, ?_, ?_, ?_⟩
          · conv => whnf
            refine ⟨?_, rfl⟩
            repeat (first | exact FLe.nil | refine FLe.any ?_ | refine FLe.cons ?_ | refine FLe.eq (by rw [wrap_i64 (by omega)]; rfl) ?_)
          · conv => whnf
            exact trivial
          · exact Ent.refl _
      · have hb1 : bmP us (n + 1) = bmP us n := if_neg hq
        have hmem : n ∉ us := fun h => hq (.inr h)
        cases c
        rotate_left
        · exfalso
          simp only [iLt_eq, decide_eq_true_eq] at hc
          omega
        conv => whnf
        repeat (refine XSame.of ?_; conv => whnf)
        refine XVal.of_read (XRead.lookupNo tabOk (t := 182) rfl rfl rfl rfl (SeesM.row (by simp)) rfl (usedKV_key us) (usedKV_no hmem) (z := .bool false) rfl ?_)
        conv => whnf
        repeat (refine XSame.of ?_; conv => whnf)
        refine ⟨n + 1, ⟨hlt', by dsimp only; omega⟩, ?_, ?_, ?_⟩
        · conv => whnf
          refine ⟨?_, rfl⟩
          repeat (first | exact FLe.nil | refine FLe.any ?_ | refine FLe.cons ?_ | refine FLe.eq (by rw [wrap_i64 (by omega)]; rfl) ?_)
        · conv => whnf
          exact trivial
        · dsimp only
          rw [hb1]
          exact Ent.refl _
    · have hie : n = 96 := by
        simp only [iLt_eq, decide_eq_false_iff_not] at hlt2
        omega
      subst hie
      have hbl := hus 96
      have hvl := viewC_len d X (.slice none 0 0) (Nat.le_refl 32)
      conv => whnf
      refine XCall.look (vblock_spec bv _ ⟨some ⟨bd, 0, none⟩, cap⟩ d.length (hVX 32 (.slice none 0 0)) hok hd 13 (by decide)) (Loc.row _ _) (fun w hst => Sees.row (by simp) w hst) ?_
      conv => whnf
      have hcl2 : (cut d (128 * 13) 128).length = 128 := cut_len (by omega)
      have heq2 := equal_spec (cut d (128 * 13) 128) (bmP us 96) (Hd.sub ⟨some ⟨bd, 0, none⟩, cap⟩ (128 * 13)) ⟨some ⟨bb, 0, none⟩, 128⟩ (by rw [hcl2]; exact Hd.sub_ok hok (by omega)) (by rw [hbl]; exact ⟨fun h => (by cases h), Nat.le_refl _⟩)
      rw [hcl2, hbl] at heq2
      refine XCall.look heq2 (Loc.and (Loc.row _ _) (Loc.row _ _)) (fun w hst => ⟨?_, ?_⟩) ?_
      · exact By.sub (Sees.bytes (Z := Z) (by simp) w hst) (by dsimp only; omega)
      · exact Sees.bytes (Z := []) (by simp) w hst
      generalize hsq2 : (cut d (128 * 13) 128 == bmP us 96) = sq2
      cases sq2
      · conv => whnf
        repeat (refine XSame.of ?_; conv => whnf)
        repeat' (first
          | (refine XIf.yes rfl ?_; conv => whnf))
        exact hbad _ _ fun ho => by
          have := ho.bits
          rw [show 128 * 13 = 1664 from rfl, this, hu] at hsq2
          simp at hsq2
      have hbits : cut d 1664 128 = bmP us 96 := by simpa using hsq2
      have hv1 : ∀ y, (viewC d X y 32)[1]? = some (intV (rk d 0)) := fun y => viewC_one d X y
      conv => whnf
      repeat (refine XSame.of ?_; conv => whnf)
      refine XVal.of_read (XRead.indexArr tabOk (t := 103) rfl rfl rfl 0 rfl (by decide) rfl ?_)
      conv => whnf
      repeat (refine XSame.of ?_; conv => whnf)
      refine XVal.of_read (XRead.loadF tabOk (t := 3) rfl rfl (ad := ⟨bv, 0, none⟩) (k := 1) (L := viewC d X (.slice none 0 0) 32) (v := intV (rk d 0)) (Sees.row (by simp)) (fun _ => rfl) (hv1 _) ?_)
      conv => whnf
      repeat (refine XSame.of ?_; conv => whnf)
      generalize hk2 : iNe (rk d 0 : Int) 2 = ck
      cases ck
      rotate_left
      · conv => whnf
        repeat (refine XSame.of ?_; conv => whnf)
        repeat' (first
          | (refine XIf.yes rfl ?_; conv => whnf))
        exact hbad _ _ fun ho => by
          have := ho.root
          rw [this] at hk2
          simp [iNe_eq] at hk2
      have hroot : rk d 0 = 2 := by
        simp [iNe_eq] at hk2
        omega
      conv => whnf
      repeat (refine XSame.of ?_; conv => whnf)
      refine XVal.of_read (XRead.subTo tabOk (t := 23) rfl rfl rfl (h := ⟨some ⟨bb, 0, none⟩, 128⟩) (n := 128) 12 rfl (show 12 ≤ 128 by decide) ?_)
      conv => whnf
      repeat (refine XSame.of ?_; conv => whnf)
      refine XUnit.storeIn tabOk (t := 23) rfl (r1 := [(bd, Row.c (d.map byteV ++ Z))]) (r2 := [(bm, Row.m (mapG (usedKV us)) (usedKV us).length), (bb, Row.c ((bmP us 96).map byteV ++ []))]) (b := bv) (k := 449) (C := viewC d X (.slice none 0 0) 32) (v := .slice (some ⟨bb, 0, none⟩) 12 128) (by rw [Addr.add_none]) rfl (by simp [Value.cells, oneCell]) (by rw [hvl]; decide) ?_
      rw [show laid (viewC d X (.slice none 0 0) 32) 449 (Value.slice (some ⟨bb, 0, none⟩) 12 128).cells.toList = viewC d X (.slice (some ⟨bb, 0, none⟩) 12 128) 32 from viewC_last ..]
      have hOk : OkP d := ⟨hsup, hall, by rw [hu]; exact hbits, hroot⟩
      have hch : chkP d = 0 := by
        unfold chkP
        rw [if_pos hd, if_pos hOk]
      rw [hch]
      generalize hV : viewC d X (.slice (some ⟨bb, 0, none⟩) 12 128) 32 = V at *
      conv => whnf
      repeat (refine XSame.of ?_; conv => whnf)
      refine ⟨⟨fun _ => True, [(bd, Row.c (d.map byteV ++ Z)), (bv, Row.c V), (bb, Row.c ((bmP us 96).map byteV ++ []))]⟩, Ent.of_le ⟨?_, fun w _ => trivial⟩, ?_⟩
      · exact .cons_cons _ (.cons_cons _ (.cons _ (List.Sublist.refl _)))
      · unfold RelV
        rw [if_pos rfl]
        exact ⟨bd, bv, bb, cap, Z, rfl, hcap, by rw [← hX, hu, hV]⟩

end Go.Proofs.YtfeoedkmndkbjaaGreatDoor
namespace Go.Proofs.YtfeoedkmndkbjaaGreatDoor
open Go Go.Sx
set_option maxRecDepth 100000
set_option linter.unusedVariables false
set_option linter.unusedSimpArgs false

theorem blk_iff {d : List UInt8} {s : Nat} {b : Nat → Nat} (hs : s ≤ 1536) :
    (∀ j, j < 12 → b j ≠ 0 → BlkOk d s j (b j)) ↔ (∀ i, i < 12 → b i ≠ 0 → 18 ≤ b i ∧ b i < 96 ∧ i * 128 < s) ∧ tailZ d s b = true := by
  unfold BlkOk tailZ
  simp only [Bool.or_eq_true, decide_eq_true_eq]
  constructor
  · intro h
    refine ⟨fun i hi h0 => ?_, ?_⟩
    · obtain ⟨h1, h2, h3, -⟩ := h i hi h0
      exact ⟨h2, h3, by omega⟩
    · by_cases h1 : s % 128 = 0
      · exact .inl h1
      by_cases h2 : b (s / 128) = 0
      · exact .inr (.inl h2)
      have h3 := (h (s / 128) (by omega) h2).2.2.2 (by omega)
      rw [show s - 128 * (s / 128) = s % 128 by omega] at h3
      exact .inr (.inr h3)
  · rintro ⟨h1, h2⟩ j hj h0
    obtain ⟨h3, h4, h5⟩ := h1 j hj h0
    refine ⟨by omega, h3, h4, fun h6 => ?_⟩
    have h7 : s / 128 = j := by omega
    have h8 : s % 128 = s - 128 * j := by omega
    rw [h7, h8] at h2
    rcases h2 with h2 | h2 | h2
    · omega
    · exact absurd h2 h0
    · exact h2

theorem slot_iff {d : List UInt8} (hd : d.length = 12288) {n : Nat} (hn : n < 32) (h0 : n = 0 → rk d n = 2) (hu : (used d (n + 1)).Nodup) : SlotOk d n ↔ formB d n = true := by
  unfold SlotOk formB
  rw [Bool.and_eq_true, decide_eq_true_eq]
  constructor
  · rintro (h | ⟨h1, h2⟩)
    · obtain ⟨z1, z2, z3, z4⟩ := slot_zero hd hn h
      have hz : inoZ (rk d n) (rs d n) (rb d n) = true := inoZ_iff.2 ⟨z1, z2, z3⟩
      refine ⟨z4, ?_⟩
      rw [if_pos hz, decide_eq_true_eq]
      intro h5
      have := h0 h5
      omega
    · refine ⟨h1, ?_⟩
      have hk := h2.kind
      have hz : ¬ inoZ (rk d n) (rs d n) (rb d n) = true := fun h => by
        have := (inoZ_iff.1 h).1
        omega
      rw [if_neg hz, decide_eq_true_eq]
      obtain ⟨g1, g2⟩ := (blk_iff h2.size).1 h2.blk
      refine ⟨hk, h2.size, h0, g1, g2, ?_⟩
      rcases h2.dir with h5 | h5
      · exact .inl (by omega)
      · exact .inr h5
  · rintro ⟨h1, h2⟩
    by_cases hz : inoZ (rk d n) (rs d n) (rb d n) = true
    · refine .inl (allZ_iff.2 ?_)
      obtain ⟨z1, z2, z3⟩ := inoZ_iff.1 hz
      rw [cut_len (by omega)]
      intro i hi
      rw [byt_cut (by omega) hi]
      unfold rk at z1
      unfold rs at z2
      unfold rp at h1
      by_cases e0 : i = 0
      · subst e0; exact z1
      by_cases e1 : i = 1
      · subst e1; omega
      by_cases e2 : i = 2
      · subst e2; omega
      by_cases e3 : i = 15
      · subst e3; exact h1
      have := z3 (i - 3) (by omega)
      unfold rb at this
      rw [show 1792 + 16 * n + (3 + (i - 3)) = 1792 + 16 * n + i by omega] at this
      exact this
    · rw [if_neg hz, decide_eq_true_eq] at h2
      obtain ⟨g1, g2, g3, g4, g5, g6⟩ := h2
      refine .inr ⟨h1, g1, g2, (blk_iff g2).2 ⟨g4, g5⟩, hu, ?_⟩
      rcases g6 with h5 | h5
      · exact .inl (by omega)
      · exact .inr h5

theorem getB_ext {a b : List UInt8} (hl : a.length = b.length) (h : ∀ j, getB a j = getB b j) : a = b := by
  refine List.ext_getElem hl fun k h1 h2 => ?_
  have hx := byt_lt a k
  have hy := byt_lt b k
  have hb : ∀ j, j < 8 → (byt a k / 2 ^ j % 2 = 1 ↔ byt b k / 2 ^ j % 2 = 1) := fun j hj => by
    have := h (8 * k + j)
    unfold getB at this
    rw [show (8 * k + j) / 8 = k by omega, show (8 * k + j) % 8 = j by omega, decide_eq_true h1, decide_eq_true h2, Bool.true_and, Bool.true_and, decide_eq_decide] at this
    exact this
  have he : byt a k = byt b k := by
    refine Nat.eq_of_testBit_eq fun i => ?_
    by_cases hi : i < 8
    · rw [Nat.testBit_eq_decide_div_mod_eq, Nat.testBit_eq_decide_div_mod_eq, decide_eq_decide]
      exact hb i hi
    · have h8 : 2 ^ 8 ≤ 2 ^ i := Nat.pow_le_pow_right (by decide) (by omega)
      rw [Nat.testBit_lt_two_pow (by omega), Nat.testBit_lt_two_pow (by omega)]
  unfold byt at he
  simp only [List.getD_eq_getElem?_getD, List.getElem?_eq_getElem h1, List.getElem?_eq_getElem h2, Option.getD_some] at he
  exact UInt8.toNat_inj.1 he

theorem getB_zero' (m j : Nat) : getB (List.replicate m 0) j = false := by
  unfold getB
  by_cases h : j / 8 < m
  · have : byt (List.replicate m 0) (j / 8) = 0 := by
      unfold byt
      simp [h]
    rw [this]
    simp
  · simp [h]

theorem getB_bmP (us : List Nat) (j : Nat) : ∀ n, n ≤ 96 → getB (bmP us n) j = decide (j < n ∧ (j < 18 ∨ j ∈ us))
  | 0, _ => by
    rw [show bmP us 0 = List.replicate 128 0 from rfl, getB_zero']
    simp
  | n + 1, hn => by
    have ih := getB_bmP us j n (by omega)
    unfold bmP
    split
    · rename_i h
      rw [getB_put true (by rw [bmP_len]; omega), ih]
      by_cases hj : j = n
      · subst hj
        simp [h]
      · rw [if_neg hj, decide_eq_decide]
        have : j < n ↔ j < n + 1 := by omega
        rw [this]
    · rename_i h
      rw [ih, decide_eq_decide]
      constructor
      · rintro ⟨h1, h2⟩
        exact ⟨by omega, h2⟩
      · rintro ⟨h1, h2⟩
        refine ⟨?_, h2⟩
        rcases Nat.lt_or_eq_of_le (Nat.lt_succ_iff.1 h1) with h5 | h5
        · exact h5
        · subst h5
          exact absurd h2 h

theorem bmP_want (us : List Nat) (h : ∀ i ∈ us, i < 96) : bmP us 96 = wantB (List.range 18 ++ us) ++ List.replicate 116 0 := by
  have hw := wantB_len (List.range 18 ++ us)
  refine getB_ext (by rw [bmP_len, List.length_append, hw, List.length_replicate]) fun j => ?_
  have hl : ∀ i ∈ List.range 18 ++ us, i < 96 := fun i hi => by
    rcases List.mem_append.1 hi with h5 | h5
    · have := List.mem_range.1 h5
      omega
    · exact h i h5
  have h1 := getB_want hl j
  rw [getB_bmP us j 96 (Nat.le_refl _)]
  generalize wantB (List.range 18 ++ us) = W at *
  by_cases hj : j / 8 < 12
  · have h2 : getB (W ++ List.replicate 116 0) j = getB W j := by
      unfold getB byt
      rw [List.getD_eq_getElem?_getD, List.getElem?_append_left (by omega), ← List.getD_eq_getElem?_getD, List.length_append, hw, List.length_replicate, decide_eq_true hj, decide_eq_true (show j / 8 < 12 + 116 by omega)]
    rw [h2, h1, decide_eq_decide, List.mem_append, List.mem_range]
    constructor
    · exact fun h => h.2
    · exact fun h => ⟨by omega, h⟩
  · have h2 : getB (W ++ List.replicate 116 0) j = false := by
      have h3 := getB_zero' 116 (j - 96)
      unfold getB byt at h3 ⊢
      rw [List.getD_eq_getElem?_getD, List.getElem?_append_right (by omega), ← List.getD_eq_getElem?_getD, hw]
      rw [show (j - 96) / 8 = j / 8 - 12 by omega, show (j - 96) % 8 = j % 8 by omega] at h3
      by_cases h4 : j / 8 < 128
      · rw [decide_eq_true (by simp; omega), Bool.true_and] at h3
        rw [h3, Bool.and_false]
      · rw [decide_eq_false (by simp [hw]; omega), Bool.false_and]
    rw [h2, decide_eq_false]
    rintro ⟨h5, -⟩
    omega

theorem cut_split (d : List UInt8) (a m n : Nat) : cut d a (m + n) = cut d a m ++ cut d (a + m) n := by
  unfold cut
  rw [List.take_add, List.drop_drop]

theorem allZ_rep {l : List UInt8} {n : Nat} (hl : l.length = n) : allZ l = true ↔ l = List.replicate n 0 := by
  unfold allZ
  rw [List.all_eq_true, List.eq_replicate_iff]
  simp [hl]

theorem super_iff {d : List UInt8} (hd : d.length = 12288) : cut d 0 128 = superB ↔ cut d 0 4 = [82, 70, 83, 49] ∧ allZ (cut d 4 124) = true := by
  have h1 : cut d 0 128 = cut d 0 4 ++ cut d 4 124 := cut_split d 0 4 124
  have h2 : superB = [82, 70, 83, 49] ++ List.replicate 124 0 := by decide
  rw [h1, h2, allZ_rep (cut_len (by omega))]
  constructor
  · intro h
    exact List.append_inj h (cut_len (by omega))
  · rintro ⟨h3, h4⟩
    rw [h3, h4]

theorem bits_iff {d : List UInt8} (hd : d.length = 12288) (us : List Nat) (h : ∀ i ∈ us, i < 96) : cut d 1664 128 = bmP us 96 ↔ allZ (cut d 1676 116) = true ∧ wantB (List.range 18 ++ us) = bmp d := by
  have h1 : cut d 1664 128 = bmp d ++ cut d 1676 116 := cut_split d 1664 12 116
  rw [h1, bmP_want us h, allZ_rep (cut_len (by omega))]
  constructor
  · intro h
    obtain ⟨h2, h3⟩ := List.append_inj h (by rw [bmp_len hd, wantB_len])
    exact ⟨h3, h2.symm⟩
  · rintro ⟨h3, h4⟩
    rw [h3, h4]

theorem used_in {d : List UInt8} {N x : Nat} (h : x ∈ used d N) : ∃ n i, n < N ∧ i < 12 ∧ x = rb d n i ∧ x ≠ 0 := by
  induction N with
  | zero => cases h
  | succ N ih =>
    rcases List.mem_append.1 (show x ∈ used d N ++ part d N 12 from h) with h5 | h5
    · obtain ⟨n, i, h1, h2⟩ := ih h5
      exact ⟨n, i, by omega, h2⟩
    · unfold part at h5
      obtain ⟨h6, h7⟩ := List.mem_filter.1 h5
      obtain ⟨i, hi, rfl⟩ := List.mem_map.1 h6
      exact ⟨N, i, by omega, List.mem_range.1 hi, rfl, by simpa using h7⟩

theorem slots_nodup {d : List UInt8} (hd : d.length = 12288) (h : ∀ n, n < 32 → SlotOk d n) : ∀ n, n ≤ 32 → (used d n).Nodup
  | 0, _ => List.nodup_nil
  | n + 1, hn => by
    rcases h n (by omega) with h5 | h5
    · rw [used_skip d (slot_zero hd (by omega) h5).2.2.1]
      exact slots_nodup hd h n (by omega)
    · exact h5.2.nodup

theorem okP_iff {d : List UInt8} (hd : d.length = 12288) : OkP d ↔ Ok37 d := by
  have hup : upTo d 32 0 = List.range 18 ++ used d 32 := by
    unfold upTo
    simp [part]
  have hmem : (∀ n, n < 32 → formB d n = true) → ∀ x ∈ used d 32, 18 ≤ x ∧ x < 96 := fun hf x hx => by
    obtain ⟨n, i, h1, h2, rfl, h4⟩ := used_in hx
    have := form_blocks (hf n h1) i h2 h4
    exact ⟨this.1, this.2.1⟩
  constructor
  · intro h
    have hnd := slots_nodup hd h.slot
    have hf : ∀ n, n < 32 → formB d n = true := fun n hn => (slot_iff hd hn (fun h0 => by rw [h0]; exact h.root) (hnd (n + 1) (by omega))).1 (h.slot n hn)
    have hm := hmem hf
    obtain ⟨m1, m2⟩ := (super_iff hd).1 h.super
    obtain ⟨b1, b2⟩ := (bits_iff hd _ fun x hx => (hm x hx).2).1 h.bits
    refine ⟨m1, m2, b1, hf, ?_, by rw [hup]; exact b2⟩
    rw [hup, List.nodup_append]
    refine ⟨List.nodup_range, hnd 32 (Nat.le_refl _), fun a ha b hb => ?_⟩
    have := List.mem_range.1 ha
    have := hm b hb
    omega
  · intro h
    have hm := hmem h.form
    have hn32 : (used d 32).Nodup := by
      have := h.nodup
      rw [hup, List.nodup_append] at this
      exact this.2.1
    have hroot : rk d 0 = 2 := by
      have := h.form 0 (by decide)
      unfold formB at this
      rw [Bool.and_eq_true] at this
      have h2 := this.2
      split at h2
      · simp at h2
      · rw [decide_eq_true_eq] at h2
        exact h2.2.2.1 rfl
    refine ⟨(super_iff hd).2 ⟨h.magic, h.super⟩, fun n hn => ?_, (bits_iff hd _ fun x hx => (hm x hx).2).2 ⟨h.rest, by rw [← hup]; exact h.bits⟩, hroot⟩
    refine (slot_iff hd hn (fun h0 => by rw [h0]; exact hroot) ?_).2 (h.form n hn)
    have hp := upTo_pre d hn (Nat.le_refl 12)
    have h2 := h.nodup.sublist hp.sublist
    unfold upTo at h2
    rw [List.append_assoc, List.nodup_append] at h2
    exact h2.2.1

theorem chkP_eq (d : List UInt8) : chkP d = chk d := by
  unfold chkP chk
  by_cases hd : d.length = 12288
  · rw [if_pos hd, if_pos hd]
    by_cases h : Ok37 d
    · rw [if_pos h, if_pos ((okP_iff hd).2 h)]
    · rw [if_neg h, if_neg fun h2 => h ((okP_iff hd).1 h2)]
  · rw [if_neg hd, if_neg hd]

end Go.Proofs.YtfeoedkmndkbjaaGreatDoor
namespace Go.Proofs.YtfeoedkmndkbjaaGreatDoor
open Go Go.Sx
set_option maxRecDepth 100000
set_option linter.unusedVariables false
set_option linter.unusedSimpArgs false

theorem pcheck_spec (d : List UInt8) (h : Hd) (hh : h.Ok d.length) (hl : d.length ≤ 1000000) : PureSpec Tryz.prog 87 [h.v d.length] (fun w => By w h d) (fun v F => v = .int .i64 (chk d : Int)) := by
  refine PureSpec.of_xc tabOk Tryz.func87 rfl (by decide) (n := Tryz.f87.ntmps - 1) rfl rfl fun w0 av => ?_
  conv => whnf
  refine XCall.pure (open37_spec d h hh hl) (fun w hw => hw) (fun v D hv => ?_)
  rw [chkP_eq] at hv
  unfold RelV at hv
  split at hv
  · rename_i h0
    obtain ⟨bd, bv, bb, cap, Z, rfl, hcap, rfl⟩ := hv
    conv => whnf
    repeat (refine XSame.of ?_; conv => whnf)
    exact ⟨_, Ent.refl _, rfl⟩
  · obtain ⟨rfl, rfl⟩ := hv
    conv => whnf
    repeat (refine XSame.of ?_; conv => whnf)
    exact ⟨_, Ent.refl _, rfl⟩

end Go.Proofs.YtfeoedkmndkbjaaGreatDoor
namespace Go.Proofs.YtfeoedkmndkbjaaGreatDoor
open Go Go.Sx
set_option maxRecDepth 100000
set_option maxHeartbeats 4000000
set_option linter.unusedVariables false
set_option linter.unusedSimpArgs false

theorem get7P_spec (b : List UInt8) (h : Hd) (hh : h.Ok b.length) (i : Nat) (hi : i ≤ 1000000) (hb : b.length ≤ 1000000) : PureSpec Tryz.prog 150 [h.v b.length, .int .i64 (i : Int)] (fun w => By w h b) (fun v F => v = .bool (getB b i)) := by
  refine PureSpec.of_xc tabOk Tryz.func150 rfl (by decide) (n := Tryz.f150.ntmps - 2) rfl rfl fun w0 av => ?_
  have hw : IntKind.i64.wrap (Int.tdiv (i : Int) (Int.ofNat 8)) = ((i / 8 : Nat) : Int) := wdiv i 8 (by omega)
  have hm : Int.tmod (i : Int) (Int.ofNat 8) = ((i % 8 : Nat) : Int) := tmod_nat i 8
  conv => whnf
  repeat (refine XSame.of ?_; conv => whnf)
  refine XIf.split (fun ht => ?_) (fun ht => ?_)
  · conv => whnf
    have hlt : i / 8 < b.length := by
      simp only [iGe_eq, iLt_eq, Bool.and_eq_true, decide_eq_true_eq] at ht
      have := ht.2
      rw [hw] at this
      omega
    refine XVal.of_read (XRead.byteAt tabOk (t := 23) rfl rfl rfl rfl (i / 8) hw hlt hh fun ad had => ?_)
    conv => whnf
    refine XVal.of_read (XRead.byteLd' tabOk (t := 5) rfl rfl had (.fact fun w h => h) rfl hlt ?_)
    conv => whnf
    refine XVal.of_read (XRead.shr (a := byt b (i / 8)) hm (by show i % 8 ≤ 8; omega) ?_)
    conv => whnf
    repeat (refine XSame.of ?_; conv => whnf)
    refine ⟨_, Ent.refl _, ?_⟩
    show Value.bool (true && iEq (Sx.bits .and .u8 ((byt b (i / 8) / 2 ^ (i % 8) : Nat) : Int) 1) 1) = _
    rw [and_bit (byt_lt _ _) (Nat.mod_lt _ (by decide)), iEq_eq]
    unfold getB
    rw [decide_eq_true hlt, Bool.true_and]
    generalize byt b (i / 8) / 2 ^ (i % 8) % 2 = q
    congr 1
    rw [Bool.eq_iff_iff]
    simp only [Bool.true_and, beq_iff_eq, decide_eq_true_eq]
    omega
  · conv => whnf
    repeat (refine XSame.of ?_; conv => whnf)
    refine ⟨_, Ent.refl _, ?_⟩
    have hlt : ¬ i / 8 < b.length := by
      simp only [iGe_eq, iLt_eq, Bool.and_eq_false_iff, decide_eq_false_iff_not] at ht
      rw [hw] at ht
      omega
    unfold getB
    rw [decide_eq_false hlt]
    rfl

theorem valid7P_spec (b : List UInt8) (h : Hd) (i j : Nat) (hb : b.length ≤ 1000000) (hij : i ≤ j ∧ j ≤ 8 * b.length) :
    PureSpec Tryz.prog 149 [h.v b.length, .int .i64 (i : Int), .int .i64 (j : Int)] (fun w => True) (fun v F => v = .bool true) := by
  refine PureSpec.of_xc tabOk Tryz.func149 rfl (by decide) (n := Tryz.f149.ntmps - 3) rfl rfl fun w0 av => ?_
  conv => whnf
  repeat (refine XSame.of ?_; conv => whnf)
  refine ⟨_, Ent.refl _, ?_⟩
  congr 1
  simp only [iLe_eq, iGe_eq, Bool.and_eq_true, decide_eq_true_eq]
  rw [wrap_i64 (by omega)]
  omega

/-- put: a bit of a row of the caller's own. -/
theorem put7P_spec (b : Nat) (l : List UInt8) (Z : List Value) (cap i : Nat) (on : Bool) (hi : i / 8 < l.length) (hb : l.length ≤ 1000000) (hc : l.length ≤ cap) :
    RowsSpec Tryz.prog 112 [.slice (some ⟨b, 0, none⟩) l.length cap, .int .i64 (i : Int), .bool on] [(b, Row.c (l.map byteV ++ Z))] (fun w => True) (fun v F => F = ⟨fun _ => True, [(b, Row.c ((putB l i on).map byteV ++ Z))]⟩) := by
  refine RowsSpec.of_xc tabOk Tryz.func112 rfl (by decide) (n := Tryz.f112.ntmps - 3) rfl rfl (by simp) fun w0 av => ?_
  have hw : IntKind.i64.wrap (Int.tdiv (i : Int) (Int.ofNat 8)) = ((i / 8 : Nat) : Int) := wdiv i 8 (by omega)
  have hm : Int.tmod (i : Int) (Int.ofNat 8) = ((i % 8 : Nat) : Int) := tmod_nat i 8
  have h8 : i % 8 < 8 := Nat.mod_lt _ (by decide)
  conv => whnf
  repeat (refine XSame.of ?_; conv => whnf)
  cases on
  · conv => whnf
    repeat (refine XSame.of ?_; conv => whnf)
    refine XStop.draw tabOk mixed rfl rfl ?_
    conv => whnf
    repeat' (first
      | (refine And.intro ?_ ?_ <;> conv => whnf)
      | (refine XHeld.same rfl ?_; conv => whnf)
      | (refine XHeld.row rfl ?_; conv => whnf)
      | (refine XHeld.call rfl ?_; conv => whnf)
      | (refine XKeep.of ?_; conv => whnf)
      | (refine XSame.of ?_; conv => whnf)
      | (refine XRead.rowIx tabOk (t := 23) rfl rfl rfl rfl (i / 8) hw hi ?_; conv => whnf)
      | (refine XRead.rowLd tabOk (t := 5) rfl rfl (l := l) (Sees.bytes (Z := Z) (by simp)) hi ?_; conv => whnf)
      | (refine XRead.shl (j := i % 8) hm (by show i % 8 ≤ 8; omega) ?_; conv => whnf)
      | (refine XUnit.storeByte tabOk (t := 5) rfl rfl (r1 := []) (r2 := []) (l := l) (Z := Z) (offN (byt l (i / 8)) (i % 8)) rfl (andNot_bit (byt_lt _ _) h8) (offN_lt (byt_lt _ _) h8) hi ?_; conv => whnf)
      | (refine XHeld.mk ?_ ?_; (focus (first | exact Ent.refl _ | exact Ent.left _ _ | exact Ent.of_le ⟨List.sublist_append_left _ _, fun w h => h⟩ | exact Ent.of_le ⟨List.Sublist.refl _, fun w h => h.1⟩)); conv => whnf))
    all_goals exact ⟨_, Ent.refl _, rfl⟩
  · conv => whnf
    repeat (refine XSame.of ?_; conv => whnf)
    refine XStop.draw tabOk mixed rfl rfl ?_
    conv => whnf
    repeat' (first
      | (refine And.intro ?_ ?_ <;> conv => whnf)
      | (refine XHeld.same rfl ?_; conv => whnf)
      | (refine XHeld.row rfl ?_; conv => whnf)
      | (refine XHeld.call rfl ?_; conv => whnf)
      | (refine XKeep.of ?_; conv => whnf)
      | (refine XSame.of ?_; conv => whnf)
      | (refine XRead.rowIx tabOk (t := 23) rfl rfl rfl rfl (i / 8) hw hi ?_; conv => whnf)
      | (refine XRead.rowLd tabOk (t := 5) rfl rfl (l := l) (Sees.bytes (Z := Z) (by simp)) hi ?_; conv => whnf)
      | (refine XRead.shl (j := i % 8) hm (by show i % 8 ≤ 8; omega) ?_; conv => whnf)
      | (refine XUnit.storeByte tabOk (t := 5) rfl rfl (r1 := []) (r2 := []) (l := l) (Z := Z) (onN (byt l (i / 8)) (i % 8)) rfl (or_bit (byt_lt _ _) h8) (onN_lt (byt_lt _ _) h8) hi ?_; conv => whnf)
      | (refine XHeld.mk ?_ ?_; (focus (first | exact Ent.refl _ | exact Ent.left _ _ | exact Ent.of_le ⟨List.sublist_append_left _ _, fun w h => h⟩ | exact Ent.of_le ⟨List.Sublist.refl _, fun w h => h.1⟩)); conv => whnf))
    all_goals exact ⟨_, Ent.refl _, rfl⟩

/-- A row of bytes (the caller's own) and an error. -/
def RelOE (l : List UInt8) (e : Nat) (v : Value) (F : Fx) : Prop := ∃ b cap Z, v = .tuple #[.slice (some ⟨b, 0, none⟩) l.length cap, .int .i64 (e : Int)] ∧ l.length ≤ cap ∧ F = ⟨fun _ => True, [(b, Row.c (l.map byteV ++ Z))]⟩

theorem set7P_spec (b : List UInt8) (h : Hd) (hh : h.Ok b.length) (i : Nat) (on : Bool) (hi : i / 8 < b.length) (hb : b.length ≤ 1000000) :
    PureSpec Tryz.prog 64 [h.v b.length, .int .i64 (i : Int), .bool on] (fun w => By w h b) (RelOE (putB b i on) 0) := by
  refine PureSpec.of_xc tabOk Tryz.func64 rfl (by decide) (n := Tryz.f64.ntmps - 3) rfl rfl fun w0 av => ?_
  have hw : IntKind.i64.wrap (Int.tdiv (i : Int) (Int.ofNat 8)) = ((i / 8 : Nat) : Int) := wdiv i 8 (by omega)
  conv => whnf
  repeat (refine XSame.of ?_; conv => whnf)
  generalize hc : (iLt _ _ || _) = c
  cases c
  rotate_left
  · exfalso
    simp only [iLt_eq, iGe_eq, Bool.or_eq_true, decide_eq_true_eq] at hc
    rcases hc with hc | hc
    · omega
    · rw [show (Int.ofNat (7 + 1)) = Int.ofNat 8 from rfl, hw] at hc
      omega
  conv => whnf
  refine XCall.pure (clone_spec b h hh (by omega) hb) (fun w hw => hw) (fun v D hv => ?_)
  obtain ⟨b1, cap, Z, rfl, hcap, rfl⟩ := hv
  have hpl := putB_len b i on
  have hcp := put7P_spec b1 b Z cap i on hi hb hcap
  generalize putB b i on = b' at *
  conv => whnf
  refine XCall.ent (F' := ⟨fun w => True, [] ++ [(b1, Row.c (b.map byteV ++ Z))] ++ []⟩) (Ent.of_le ⟨by simp [Fx.and], fun w hw => trivial⟩) ?_
  refine XCall.rows hcp (fun w hw => trivial) (fun v F hv => ?_)
  subst hv
  conv => whnf
  refine ⟨⟨fun _ => True, [(b1, Row.c (b'.map byteV ++ Z))]⟩, Ent.of_le ⟨by simp, fun w _ => trivial⟩, b1, cap, Z, ?_, by omega, rfl⟩
  rw [hpl]
  rfl

end Go.Proofs.YtfeoedkmndkbjaaGreatDoor
namespace Go.Proofs.YtfeoedkmndkbjaaGreatDoor
open Go Go.Sx
set_option maxRecDepth 100000
set_option maxHeartbeats 4000000
set_option linter.unusedVariables false
set_option linter.unusedSimpArgs false

abbrev Ino := Nat × Nat × (Nat → Nat)
def inoV (i : Ino) : List Value := inoL i.1 i.2.1 i.2.2
def inoG (g : Nat → Ino) : Nat → List Value
  | 0 => []
  | n + 1 => inoG g n ++ inoV (g n)
/-- The cells of a view. -/
def vwG (X : Value) (g : Nat → Ino) (Y : Value) : List Value := X :: (inoG g 32 ++ [Y])
def dIno (d : List UInt8) (n : Nat) : Ino := (rk d n, rs d n, rb d n)
def upd (g : Nat → Ino) (n : Nat) (i : Ino) (m : Nat) : Ino := if m = n then i else g m

theorem inoV_len (i : Ino) : (inoV i).length = 14 := rfl

theorem inoG_len (g : Nat → Ino) : ∀ n, (inoG g n).length = 14 * n
  | 0 => rfl
  | n + 1 => by
    unfold inoG
    rw [List.length_append, inoG_len g n, inoV_len]
    omega

theorem inoG_congr {g g' : Nat → Ino} : ∀ {n : Nat}, (∀ m, m < n → g m = g' m) → inoG g n = inoG g' n
  | 0, _ => rfl
  | n + 1, h => by
    unfold inoG
    rw [inoG_congr (n := n) fun m hm => h m (by omega), h n (by omega)]

theorem viewC_vw (d : List UInt8) (x y : Value) : viewC d x y 32 = vwG x (dIno d) y := by
  have h : ∀ n, inoCs d n = inoG (dIno d) n := fun n => by
    induction n with
    | zero => rfl
    | succ n ih =>
      show inoCs d n ++ _ = inoG (dIno d) n ++ _
      rw [ih]
      rfl
  unfold viewC vwG
  rw [h]
  simp

theorem vwG_len (X : Value) (g : Nat → Ino) (Y : Value) : (vwG X g Y).length = 450 := by
  simp [vwG, inoG_len]

theorem laid_left {A B l : List Value} {k : Nat} (h : k + l.length ≤ A.length) : laid (A ++ B) k l = laid A k l ++ B := by
  unfold laid
  rw [List.take_append_of_le_length (by omega), List.drop_append_of_le_length (by omega)]
  simp

theorem laid_end {A B l : List Value} {k : Nat} (h : k = A.length) (hl : l.length = B.length) : laid (A ++ B) k l = A ++ l := by
  subst h
  unfold laid
  rw [List.take_left, List.drop_append, List.drop_of_length_le (by omega), Nat.add_sub_cancel_left, List.drop_of_length_le (by omega)]
  simp

theorem laid_succ {a : Value} {A l : List Value} {k : Nat} : laid (a :: A) (1 + k) l = a :: laid A k l := by
  unfold laid
  rw [show 1 + k = k + 1 by omega, List.take_succ_cons, show k + 1 + l.length = (k + l.length) + 1 by omega, List.drop_succ_cons]
  rfl

theorem inoG_set (g : Nat → Ino) {n : Nat} (i : Ino) : ∀ {N : Nat}, n < N → laid (inoG g N) (14 * n) (inoV i) = inoG (upd g n i) N
  | 0, h => by omega
  | N + 1, h => by
    unfold inoG
    by_cases hn : n = N
    · subst hn
      rw [laid_end (l := inoV i) (B := inoV (g n)) (by rw [inoG_len]) rfl]
      rw [inoG_congr (g' := upd g n i) fun m hm => by unfold upd; rw [if_neg (by omega)]]
      unfold upd
      rw [if_pos rfl]
    · rw [laid_left (by rw [inoG_len, inoV_len]; omega), inoG_set g i (show n < N by omega)]
      unfold upd
      rw [if_neg (fun e => hn e.symm)]

theorem vw_set (X : Value) (g : Nat → Ino) (Y : Value) {n : Nat} (hn : n < 32) (i : Ino) : laid (vwG X g Y) (1 + 14 * n) (inoV i) = vwG X (upd g n i) Y := by
  unfold vwG
  rw [laid_succ, laid_left (by rw [inoG_len, inoV_len]; omega), inoG_set g i hn]

theorem vw_bits (X : Value) (g : Nat → Ino) (Y Y' : Value) : laid (vwG X g Y) 449 [Y'] = vwG X g Y' := by
  unfold vwG
  rw [show (449 : Nat) = 1 + 448 from rfl, laid_succ, laid_end (l := [Y']) (B := [Y]) (by rw [inoG_len]) rfl]

theorem inoG_at (g : Nat → Ino) {n : Nat} (B : List Value) : ∀ {N : Nat}, n < N → ((inoG g N ++ B).drop (14 * n)).take 14 = inoV (g n)
  | 0, h => by omega
  | N + 1, h => by
    unfold inoG
    rw [List.append_assoc]
    by_cases hn : n = N
    · subst hn
      rw [List.drop_append, List.drop_of_length_le (by rw [inoG_len]; omega), inoG_len, Nat.sub_self, List.drop_zero, List.nil_append]
      exact List.take_left' (inoV_len _)
    · exact inoG_at g (inoV (g N) ++ B) (show n < N by omega)

theorem vw_at (X : Value) (g : Nat → Ino) (Y : Value) {n : Nat} (hn : n < 32) : ((vwG X g Y).drop (1 + 14 * n)).take 14 = inoV (g n) := by
  unfold vwG
  rw [show 1 + 14 * n = 14 * n + 1 by omega, List.drop_succ_cons]
  exact inoG_at g [Y] hn

theorem vw_cell (X : Value) (g : Nat → Ino) (Y : Value) {n : Nat} (hn : n < 32) {i : Nat} (hi : i < 14) : (vwG X g Y)[1 + 14 * n + i]? = (inoV (g n))[i]? := by
  rw [← vw_at X g Y hn, List.getElem?_take_of_lt hi, List.getElem?_drop]

theorem vw_kind (X : Value) (g : Nat → Ino) (Y : Value) {n : Nat} (hn : n < 32) : (vwG X g Y)[1 + 14 * n]? = some (intV (g n).1) := vw_cell X g Y hn (i := 0) (by decide)

theorem vw_last (X : Value) (g : Nat → Ino) (Y : Value) : (vwG X g Y)[449]? = some Y := by
  unfold vwG
  rw [List.getElem?_cons_succ, List.getElem?_append_right (by rw [inoG_len]; omega), inoG_len]
  rfl

/-- What get answers of a view's inodes. -/
def getGe (g : Nat → Ino) (n : Int) : Nat := if n < 0 ∨ 32 ≤ n then 2 else if (g n.toNat).1 = 0 then 8 else 0
def getGi (g : Nat → Ino) (n : Int) : Ino := if getGe g n = 0 then g n.toNat else (0, 0, fun _ => 0)

theorem getG_bad {g : Nat → Ino} {n : Int} {e : Nat} (h : getGe g n = e) (he : e ≠ 0) : getGi g n = (0, 0, fun _ => 0) := by
  unfold getGi
  rw [if_neg (by omega)]

theorem vget_spec (bv : Nat) (X : Value) (g : Nat → Ino) (Y : Value) (n : Int) :
    PureSpec Tryz.prog 124 [.pointer (some ⟨bv, 0, none⟩), .int .i64 n] (fun w => RowAt w (some ⟨bv, 0, none⟩) (vwG X g Y)) (fun v F => v = .tuple #[.agg ⟨inoV (getGi g n)⟩, .int .i64 (getGe g n : Int)]) := by
  have hV := vwG_len X g Y
  have hk := fun m (hm : m < 32) => vw_kind X g Y hm
  have ha := fun m (hm : m < 32) => vw_at X g Y hm
  generalize hVe : vwG X g Y = V at *
  refine PureSpec.of_xc tabOk Tryz.func124 rfl (by decide) (n := Tryz.f124.ntmps - 2) rfl rfl fun w0 av => ?_
  conv => whnf
  repeat (refine XSame.of ?_; conv => whnf)
  intro b4
  conv => whnf
  repeat (refine XSame.of ?_; conv => whnf)
  generalize hr : (iLt n 0 || iGe n 32) = r
  cases r
  rotate_left
  · have he : getGe g n = 2 := by
      unfold getGe
      rw [if_pos (by simp [iLt_eq, iGe_eq] at hr; omega)]
    rw [getG_bad he (by decide), he]
    conv => whnf
    repeat (refine XSame.of ?_; conv => whnf)
    exact ⟨_, Ent.refl _, rfl⟩
  have hn : 0 ≤ n ∧ n < 32 := by
    simp [iLt_eq, iGe_eq] at hr
    omega
  obtain ⟨m, rfl⟩ : ∃ m : Nat, n = m := ⟨n.toNat, by omega⟩
  have hm : m < 32 := by omega
  have hge : getGe g (m : Int) = if (g m).1 = 0 then 8 else 0 := by
    unfold getGe
    rw [if_neg (by omega)]
    rfl
  conv => whnf
  repeat (refine XSame.of ?_; conv => whnf)
  refine XVal.of_read (XRead.indexArr tabOk (t := 103) rfl rfl rfl m rfl hm rfl ?_)
  conv => whnf
  repeat (refine XSame.of ?_; conv => whnf)
  refine XVal.of_read (XRead.loadF tabOk (t := 3) rfl rfl (ad := ⟨bv, 0, none⟩) (k := 1 + 14 * m) (L := V) (v := intV (g m).1) (.fact fun w hw => hw) (fun _ => by simp only [Addr.add_none]; congr 1; omega) (hk m hm) ?_)
  conv => whnf
  repeat (refine XSame.of ?_; conv => whnf)
  refine XIf.split (fun hz => ?_) (fun hz => ?_)
  · have hz' : (g m).1 = 0 := by
      simp [iEq_eq] at hz
      omega
    have he : getGe g (m : Int) = 8 := by rw [hge, if_pos hz']
    rw [getG_bad he (by decide), he]
    conv => whnf
    repeat (refine XSame.of ?_; conv => whnf)
    exact ⟨_, Ent.refl _, rfl⟩
  · have hz' : (g m).1 ≠ 0 := by
      simp [iEq_eq] at hz
      omega
    have he : getGe g (m : Int) = 0 := by rw [hge, if_neg hz']
    have hi : getGi g (m : Int) = g m := by
      unfold getGi
      rw [he, if_pos rfl]
      rfl
    rw [hi, he]
    conv => whnf
    repeat (refine XSame.of ?_; conv => whnf)
    refine XVal.of_read (XRead.indexArr tabOk (t := 103) rfl rfl rfl m rfl hm rfl ?_)
    conv => whnf
    repeat (refine XSame.of ?_; conv => whnf)
    refine XVal.of_read (XRead.loads tabOk (t := 82) rfl rfl (ad := ⟨bv, 0, none⟩) (k := 1 + 14 * m) (L := V) (m := inoV (g m)) (.fact fun w hw => hw) (by simp only [Addr.add_none]; congr 1; omega) (ha m hm) rfl ?_)
    conv => whnf
    repeat (refine XSame.of ?_; conv => whnf)
    exact ⟨_, Ent.refl _, rfl⟩

end Go.Proofs.YtfeoedkmndkbjaaGreatDoor
namespace Go.Proofs.YtfeoedkmndkbjaaGreatDoor
open Go Go.Sx
set_option maxRecDepth 100000
set_option maxHeartbeats 4000000
set_option linter.unusedVariables false
set_option linter.unusedSimpArgs false

/-- A view and its bits. -/
def VwF (bv : Nat) (X : Value) (g : Nat → Ino) (k : Hd) (bits : List UInt8) (F : Fx) : Prop := F = ⟨fun w => By w k bits, [(bv, Row.c (vwG X g (k.v 12)))]⟩

/-- What the program's Take hands back. -/
def RelTP (b : List UInt8) (v : Value) (F : Fx) : Prop :=
  match freeB b with
  | none => ∃ e : Int, e = 13 ∧ v = .tuple #[.slice none 0 0, .slice none 0 0, .int .i64 e] ∧ F = ⟨fun w => True, []⟩
  | some i => ∃ (l k : Hd) (e : Int), e = 0 ∧ v = .tuple #[l.v 1, k.v b.length, .int .i64 e] ∧ l.Ok 1 ∧ k.Ok b.length ∧ F = ⟨fun w => RowAt w l.a [intV i] ∧ By w k (putB b i true), []⟩

theorem take7P_spec (b : List UInt8) (h : Hd) (hh : h.Ok b.length) (hb : b.length = 12) (one : Int) (hone : one = 1) : PureSpec Tryz.prog 125 [h.v b.length, .int .i64 18, .int .i64 96, .int .i64 one] (fun w => By w h b) (RelTP b) := by
  generalize h96 : (96 : Int) = n96
  generalize h18 : (18 : Int) = n18
  refine PureSpec.of_xc tabOk Tryz.func125 rfl (by decide) (n := Tryz.f125.ntmps - 4) rfl rfl fun w0 av => ?_
  conv => whnf
  subst h18 h96
  refine XCall.val (valid7P_spec b h 18 96 (by omega) (by omega)) (fun w hw => trivial) (fun v D hv => ?_)
  obtain ⟨vv, hvv⟩ : ∃ vv, vv = true := ⟨_, rfl⟩
  rw [← hvv] at hv
  subst hv
  conv => whnf
  repeat (refine XSame.of ?_; conv => whnf)
  refine XIf.no (by subst hvv hone; simp [iLt_eq]) ?_
  conv => whnf
  refine XCall.pure (clone_spec b h hh (by omega) (by omega)) (fun w hw => hw) (fun v D hv => ?_)
  obtain ⟨b1, cap1, Z, rfl, hcap1, rfl⟩ := hv
  conv => whnf
  generalize h96 : (96 : Int) = n96
  refine XStop.loop tabOk (ι := Nat × Bool × Option Addr × Nat × List Value) ([8, 11] ++ List.range' 24 22)
    (fun x => (18 ≤ x.1 ∧ x.1 ≤ 96) ∧ match x.2.1 with
      | false => (∀ j, 18 ≤ j → j < x.1 → getB b j = true) ∧ x.2.2.1 = none ∧ x.2.2.2.1 = 0 ∧ x.2.2.2.2 = []
      | true => 19 ≤ x.1 ∧ freeB b = some (x.1 - 1) ∧ Own 1 1 x.2.2.1 x.2.2.2.1 x.2.2.2.2 [intV (x.1 - 1)])
    (fun x => [(8, .v (.slice x.2.2.1 (cond x.2.1 1 0) x.2.2.2.1)), (11, .v (.int .i64 (x.1 : Int)))]) (fun _ => [])
    (fun x => ⟨fun w => By w h b, [] ++ [(b1, Row.c ((cond x.2.1 (putB b (x.1 - 1) true) b).map byteV ++ Z))] ++ orow x.2.2.1 x.2.2.2.2⟩)
    (fun x => 96 - x.1) (18, false, none, 0, []) ⟨⟨Nat.le_refl _, by omega⟩, fun j h1 h2 => by omega, rfl, rfl, rfl⟩ ?_ rfl (Ent.of_le ⟨by simp [orow, Fx.and], fun w hw => by exact hw.1⟩) fun x hx => ?_
  · conv => whnf
    repeat (first | exact FLe.nil | refine FLe.any ?_ | refine FLe.cons ?_)
  obtain ⟨i, fo, a, cap, C⟩ := x
  obtain ⟨⟨hi1, hi2⟩, hx⟩ := hx
  dsimp only at hi1 hi2 hx ⊢
  cases fo
  · obtain ⟨hall, rfl, rfl, rfl⟩ := hx
    conv => whnf
    repeat (refine XSame.of ?_; conv => whnf)
    refine XIf.split (fun ht => ?_) (fun ht => ?_)
    · conv => whnf
      have hlt : i < 96 := by
        subst h96
        simp only [iLt_eq, Bool.and_eq_true, decide_eq_true_eq] at ht
        omega
      refine XCall.val (get7P_spec b h hh i (by omega) (by omega)) (fun w hw => hw) (fun v D hv => ?_)
      generalize hg : getB b i = g at hv
      subst hv
      conv => whnf
      cases g
      · conv => whnf
        repeat' (first
          | (refine XIf.yes rfl ?_; conv => whnf))
        refine XVal.build tabOk (t := 97) rfl rfl rfl [.int .i64 (i : Int)] rfl rfl (by simp [Value.cells]) (by decide) fun b0 => ?_
        conv => whnf
        refine XVal.ent (F' := ⟨fun w => By w h b, [(b1, Row.c (b.map byteV ++ Z))] ++ orow none [] ++ [(b0, Row.c [intV i])]⟩) (Ent.of_le ⟨by simp [Value.cells, orow, intV], fun w hw => hw⟩) ?_
        refine XVal.append tabOk (t := 97) (xt := 97) rfl rfl rfl rfl rfl rfl (r1 := [(b1, Row.c (b.map byteV ++ Z))]) (r2 := [(b0, Row.c [intV i])]) (M := [intV i]) (Own.nil 1) (Sees.row (by simp)) rfl (by simp [intV, oneCell]) (by simp) (by simp) fun a' c' C' hO' => ?_
        conv => whnf
        refine XCall.ent (F' := ⟨fun w => By w h b, [] ++ [(b1, Row.c (b.map byteV ++ Z))] ++ orow a' C'⟩) (Ent.of_le ⟨by simp, fun w hw => hw⟩) ?_
        refine XCall.rows (put7P_spec b1 b Z cap1 i true (by omega) (by omega) hcap1) (fun w hw => trivial) (fun v F hv => ?_)
        subst hv
        conv => whnf
        refine ⟨(i + 1, true, a', c', C'), ⟨⟨⟨by dsimp only; omega, by dsimp only; omega⟩, by dsimp only; omega, ?_, ?_⟩, by dsimp only; omega⟩, ?_, ?_, ?_⟩
        · exact freeB_some hi1 hlt hall hg
        · simpa using hO'
        · conv => whnf
          refine ⟨?_, rfl⟩
          repeat (first | exact FLe.nil | refine FLe.any ?_ | refine FLe.cons ?_ | refine FLe.eq (by rw [wrap_i64 (by omega)]; rfl) ?_)
        · conv => whnf
          exact trivial
        · exact Ent.of_le ⟨by simp, fun w hw => hw.1⟩
      · conv => whnf
        repeat' (first
          | (refine XIf.no rfl ?_; conv => whnf))
        refine ⟨(i + 1, false, none, 0, []), ⟨⟨⟨by dsimp only; omega, by dsimp only; omega⟩, fun j h1 h2 => ?_, rfl, rfl, rfl⟩, by dsimp only; omega⟩, ?_, ?_, Ent.refl _⟩
        · rcases Nat.lt_or_eq_of_le (Nat.lt_succ_iff.1 h2) with h3 | h3
          · exact hall j h1 h3
          · subst h3
            exact hg
        · conv => whnf
          refine ⟨?_, rfl⟩
          repeat (first | exact FLe.nil | refine FLe.any ?_ | refine FLe.cons ?_ | refine FLe.eq (by rw [wrap_i64 (by omega)]; rfl) ?_)
        · conv => whnf
          exact trivial
    · conv => whnf
      have hie : i = 96 := by
        subst h96
        subst hone
        simp [iLt_eq] at ht
        omega
      refine XIf.yes (by subst hone; simp [iLt_eq]) ?_
      conv => whnf
      refine ⟨⟨fun w => True, []⟩, Ent.bare fun w hw => trivial, ?_⟩
      unfold RelTP
      rw [freeB_none (fun j h1 h2 => hall j h1 (by omega))]
      exact ⟨13, rfl, rfl, rfl⟩
  · obtain ⟨hi3, hfr, hO⟩ := hx
    have hpl := putB_len b (i - 1) true
    generalize hpb : putB b (i - 1) true = b' at *
    conv => whnf
    repeat (refine XSame.of ?_; conv => whnf)
    refine XIf.no (by subst hone; simp [iLt_eq]) ?_
    conv => whnf
    refine XIf.no (by subst hone; simp [iLt_eq]) ?_
    conv => whnf
    refine ⟨⟨fun w => RowAt w a [intV (i - 1)] ∧ By w ⟨some ⟨b1, 0, none⟩, cap1⟩ b', []⟩, ?_, ?_⟩
    · refine (Own.share (r1 := [] ++ [(b1, Row.c (b'.map byteV ++ Z))]) (r2 := []) hO |> fun h => (show Ent ⟨_, [] ++ [(b1, Row.c (b'.map byteV ++ Z))] ++ orow a C⟩ ⟨_, [] ++ [(b1, Row.c (b'.map byteV ++ Z))] ++ []⟩ from by simpa using h)).trans ?_
      exact Ent.factB.trans (Ent.imp fun w hw => ⟨hw.1.2, hw.2⟩)
    · unfold RelTP
      rw [hfr]
      dsimp only
      rw [hpb]
      exact ⟨⟨a, cap⟩, ⟨some ⟨b1, 0, none⟩, cap1⟩, 0, rfl, rfl, hO.hd, ⟨fun h => (by cases h), hcap1⟩, rfl⟩

/-- What the view's take hands back for n = 1. -/
def RelVT (bv : Nat) (X : Value) (g : Nat → Ino) (k : Hd) (bits : List UInt8) (v : Value) (F : Fx) : Prop :=
  match freeB bits with
  | none => ∃ r : Bool, r = false ∧ v = .tuple #[.slice none 0 0, .bool r] ∧ VwF bv X g k bits F
  | some i => ∃ (l k2 : Hd) (r : Bool), r = true ∧ v = .tuple #[l.v 1, .bool r] ∧ l.Ok 1 ∧ k2.Ok 12 ∧ F = ⟨fun w => RowAt w l.a [intV i] ∧ By w k2 (putB bits i true), [(bv, Row.c (vwG X g (k2.v 12)))]⟩

theorem vtake_spec (bv : Nat) (X : Value) (g : Nat → Ino) (k : Hd) (bits : List UInt8) (hk : k.Ok 12) (hb : bits.length = 12) (one : Int) (hone : one = 1) :
    RowsSpec Tryz.prog 75 [.pointer (some ⟨bv, 0, none⟩), .int .i64 one] [(bv, Row.c (vwG X g (k.v 12)))] (fun w => By w k bits) (RelVT bv X g k bits) := by
  have hV := vwG_len X g (k.v 12)
  have hl := vw_last X g (k.v 12)
  have hst := fun Y' => vw_bits X g (k.v 12) Y'
  have hs := take7P_spec bits k (by rw [hb]; exact hk) hb one hone
  refine RowsSpec.of_xc tabOk Tryz.func75 rfl (by decide) (n := Tryz.f75.ntmps - 2) rfl rfl (by simp) fun w0 av => ?_
  unfold RelVT VwF
  unfold RelTP at hs
  rw [hb] at hs
  generalize hVe : vwG X g (k.v 12) = V at *
  conv => whnf
  repeat (refine XSame.of ?_; conv => whnf)
  refine XIf.no (by subst hone; simp [iEq_eq]) ?_
  conv => whnf
  repeat (refine XSame.of ?_; conv => whnf)
  refine XVal.of_read (XRead.loadF tabOk (t := 23) rfl rfl (ad := ⟨bv, 0, none⟩) (k := 449) (L := V) (v := k.v 12) (Sees.row (by simp)) (fun _ => rfl) hl ?_)
  conv => whnf
  repeat (refine XSame.of ?_; conv => whnf)
  cases hf : freeB bits with
  | none =>
    rw [hf] at hs
    refine XCall.pure hs (fun w hw => hw) (fun v D hv => ?_)
    obtain ⟨e, he, rfl, rfl⟩ := hv
    conv => whnf
    refine XIf.yes (by subst he; simp [iNe_eq]) ?_
    conv => whnf
    exact ⟨_, Ent.of_le ⟨by simp [Fx.and], fun w hw => hw.1⟩, false, rfl, rfl, rfl⟩
  | some x =>
    rw [hf] at hs
    refine XCall.pure hs (fun w hw => hw) (fun v D hv => ?_)
    obtain ⟨l, k2, e, he, rfl, hlo, hk2, rfl⟩ := hv
    dsimp only
    generalize putB bits x true = bits' at *
    conv => whnf
    refine XIf.no (by subst he; simp [iNe_eq]) ?_
    conv => whnf
    refine XUnit.storeIn tabOk (t := 23) rfl (r1 := []) (r2 := []) (b := bv) (k := 449) (C := V) (v := k2.v 12) (by rw [Addr.add_none]) rfl (by simp [Value.cells, oneCell, Hd.v]) (by rw [hV]; decide) ?_
    rw [show laid V 449 (k2.v 12).cells.toList = vwG X g (k2.v 12) from hst _]
    conv => whnf
    repeat (refine XSame.of ?_; conv => whnf)
    exact ⟨⟨fun w => RowAt w l.a [intV x] ∧ By w k2 bits', [(bv, Row.c (vwG X g (k2.v 12)))]⟩, Ent.of_le ⟨by simp [Fx.and], fun w hw => hw.2⟩, l, k2, true, rfl, rfl, hlo, hk2, rfl⟩

end Go.Proofs.YtfeoedkmndkbjaaGreatDoor
namespace Go.Proofs.YtfeoedkmndkbjaaGreatDoor
open Go Go.Sx
set_option maxRecDepth 100000
set_option maxHeartbeats 4000000
set_option linter.unusedVariables false
set_option linter.unusedSimpArgs false

/-- An inode's bytes are written one by one. -/
def ipw (d : List UInt8) (o : Nat) (k s : Nat) (b : Nat → Nat) : Nat → List UInt8
  | 0 => bput (bput (bput d o (k % 256)) (o + 1) (s / 256 % 256)) (o + 2) (s % 256)
  | j + 1 => bput (ipw d o k s b j) (o + (3 + j)) (b j % 256)

theorem ipw_len (d : List UInt8) (o k s : Nat) (b : Nat → Nat) : ∀ j, (ipw d o k s b j).length = d.length
  | 0 => by simp [ipw, bput_len]
  | j + 1 => by unfold ipw; rw [bput_len, ipw_len d o k s b j]

theorem byt_inoB0 (k s : Nat) (b : Nat → Nat) : byt (inoB k s b) 0 = k % 256 ∧ byt (inoB k s b) 1 = s / 256 % 256 ∧ byt (inoB k s b) 2 = s % 256 ∧ byt (inoB k s b) 15 = 0 := by
  refine ⟨by simp [inoB, byt], by simp [inoB, byt], by simp [inoB, byt], by simp [inoB, byt]⟩

theorem byt_inoB (k s : Nat) (b : Nat → Nat) {j : Nat} (hj : j < 12) : byt (inoB k s b) (3 + j) = b j % 256 := by
  match j, hj with
  | 0, _ | 1, _ | 2, _ | 3, _ | 4, _ | 5, _ | 6, _ | 7, _ | 8, _ | 9, _ | 10, _ | 11, _ => simp [inoB, byt, List.range_succ]

theorem byt_ipw (d : List UInt8) {o : Nat} (k s : Nat) (b : Nat → Nat) (ho : o + 16 ≤ d.length) : ∀ {j : Nat}, j ≤ 12 → ∀ i, byt (ipw d o k s b j) i = if o ≤ i ∧ i < o + 3 + j then byt (inoB k s b) (i - o) else byt d i
  | 0, _, i => by
    have h0 := byt_inoB0 k s b
    unfold ipw
    rw [byt_bput (by simp [bput_len]; omega) (by omega), byt_bput (by simp [bput_len]; omega) (by omega), byt_bput (by omega) (by omega)]
    by_cases h2 : i = o + 2
    · subst h2
      rw [if_pos rfl, if_pos (by omega), show o + 2 - o = 2 by omega, h0.2.2.1]
    rw [if_neg h2]
    by_cases h1 : i = o + 1
    · subst h1
      rw [if_pos rfl, if_pos (by omega), show o + 1 - o = 1 by omega, h0.2.1]
    rw [if_neg h1]
    by_cases h3 : i = o
    · subst h3
      rw [if_pos rfl, if_pos (by omega), Nat.sub_self, h0.1]
    rw [if_neg h3, if_neg (by omega)]
  | j + 1, hj, i => by
    unfold ipw
    rw [byt_bput (by rw [ipw_len]; omega) (by omega), byt_ipw d k s b ho (show j ≤ 12 by omega)]
    by_cases h2 : i = o + (3 + j)
    · subst h2
      rw [if_pos rfl, if_pos (by omega), show o + (3 + j) - o = 3 + j by omega, byt_inoB k s b (by omega)]
    rw [if_neg h2]
    by_cases h3 : o ≤ i ∧ i < o + 3 + j
    · rw [if_pos h3, if_pos (by omega)]
    · rw [if_neg h3, if_neg (by omega)]

theorem ipw_end (d : List UInt8) {o : Nat} (k s : Nat) (b : Nat → Nat) (ho : o + 16 ≤ d.length) : bput (ipw d o k s b 12) (o + 15) 0 = lay d o (inoB k s b) := by
  have hl := inoB_len k s b
  refine byt_ext (by rw [bput_len, ipw_len, lay_len (by rw [hl]; exact ho)]) fun i hi => ?_
  rw [byt_bput (by rw [ipw_len]; omega) (by omega), byt_ipw d k s b ho (Nat.le_refl _), byt_lay (by rw [hl]; exact ho), hl]
  by_cases h1 : i = o + 15
  · subst h1
    rw [if_pos rfl, if_pos (by omega), show o + 15 - o = 15 by omega, (byt_inoB0 k s b).2.2.2]
  rw [if_neg h1]
  by_cases h2 : o ≤ i ∧ i < o + 16
  · rw [if_pos h2, if_pos (by omega)]
  · rw [if_neg h2, if_neg (by omega)]

theorem iput_spec (bd : Nat) (d : List UInt8) (Z : List Value) (o c k s : Nat) (b : Nat → Nat) (ho : o + 16 ≤ d.length) (hk : k ≤ 1000000) (hs : s ≤ 1000000) (hb : ∀ i, b i ≤ 1000000) :
    RowsSpec Tryz.prog 113 [.agg ⟨inoL k s b⟩, .slice (some ⟨bd, o, none⟩) 16 c] [(bd, Row.c (d.map byteV ++ Z))] (fun w => True) (fun v F => F = ⟨fun _ => True, [(bd, Row.c ((lay d o (inoB k s b)).map byteV ++ Z))]⟩) := by
  have hlen := ipw_len d o k s b
  have hend := ipw_end d k s b ho
  have h0 : ipw d o k s b 0 = bput (bput (bput d o (k % 256)) (o + 1) (s / 256 % 256)) (o + 2) (s % 256) := rfl
  have hnx : ∀ j, ipw d o k s b (j + 1) = bput (ipw d o k s b j) (o + (3 + j)) (b j % 256) := fun j => rfl
  generalize ipw d o k s b = pw at *
  generalize lay d o (inoB k s b) = dd at *
  refine RowsSpec.of_xc tabOk Tryz.func113 rfl (by decide) (n := Tryz.f113.ntmps - 2) rfl rfl (by simp) fun w0 av => ?_
  conv => whnf
  intro b2
  conv => whnf
  refine XStop.draw tabOk mixed rfl rfl ?_
  conv => whnf
  repeat' (first
    | (refine And.intro ?_ ?_ <;> conv => whnf)
    | (refine XHeld.same rfl ?_; conv => whnf)
    | (refine XHeld.row rfl ?_; conv => whnf)
    | (refine XHeld.call rfl ?_; conv => whnf)
    | (refine XKeep.of ?_; conv => whnf)
    | (refine XSame.of ?_; conv => whnf)
    | (refine XRead.shr (a := s) (j := 8) rfl (by decide) ?_; conv => whnf)
    | (refine XRead.rowIxAt tabOk (t := 23) rfl rfl rfl rfl 0 rfl (by decide) ?_; conv => whnf)
    | (refine XRead.rowIxAt tabOk (t := 23) rfl rfl rfl rfl 1 rfl (by decide) ?_; conv => whnf)
    | (refine XRead.rowIxAt tabOk (t := 23) rfl rfl rfl rfl 2 rfl (by decide) ?_; conv => whnf)
    | (refine XUnit.storeByte tabOk (t := 5) rfl rfl (r1 := []) (r2 := []) (k := o) (l := d) (Z := Z) (k % 256) rfl (wrap_u8 k) (by omega) (by omega) ?_; conv => whnf)
    | (refine XUnit.storeByte tabOk (t := 5) rfl rfl (r1 := []) (r2 := []) (k := o + 1) (l := bput d o (k % 256)) (Z := Z) (s / 256 % 256) rfl (wrap_u8 (s / 256)) (by omega) (by rw [bput_len]; omega) ?_; conv => whnf)
    | (refine XUnit.storeByte tabOk (t := 5) rfl rfl (r1 := []) (r2 := []) (k := o + 2) (l := bput (bput d o (k % 256)) (o + 1) (s / 256 % 256)) (Z := Z) (s % 256) rfl (wrap_u8 s) (by omega) (by rw [bput_len, bput_len]; omega) ?_; conv => whnf)
    | (refine XHeld.mk ?_ ?_; (focus (first | exact Ent.refl _ | exact Ent.left _ _ | exact Ent.of_le ⟨List.sublist_append_left _ _, fun w h => h⟩ | exact Ent.of_le ⟨List.Sublist.refl _, fun w h => h.1⟩)); conv => whnf))
  rw [← h0]
  conv => whnf
  repeat (refine XSame.of ?_; conv => whnf)
  refine XStop.loop tabOk (ι := Nat) ([4, 5] ++ List.range' 24 11) (fun x => x ≤ 12)
    (fun x => [(24, .v (.int .i64 (x : Int)))]) (fun _ => [inoL k s b]) (fun x => ⟨fun w => True, [(bd, Row.c ((pw x).map byteV ++ Z))]⟩)
    (fun x => 12 - x) 0 (Nat.zero_le _) ?_ rfl (Ent.refl _) fun i hi => ?_
  · conv => whnf
    repeat (first | exact FLe.nil | refine FLe.any ?_ | refine FLe.cons ?_)
  have hli := hlen i
  have hni := hnx i
  conv => whnf
  refine XIf.split (fun hlt => ?_) (fun hlt => ?_)
  · have hlt' : i < 12 := by
      simp only [iLt_eq, decide_eq_true_eq] at hlt
      omega
    have hbi := hb i
    conv => whnf
    repeat (refine XSame.of ?_; conv => whnf)
    refine XVal.of_read (XRead.indexAgg tabOk (t := 72) rfl rfl rfl rfl rfl i rfl hlt' (arr_get hlt') ?_)
    conv => whnf
    repeat (refine XSame.of ?_; conv => whnf)
    refine XVal.of_read (XRead.rowIxAt tabOk (t := 23) rfl rfl rfl rfl (3 + i) (by rw [wrap_i64 (by omega)]; omega) (by omega) ?_)
    conv => whnf
    repeat (refine XSame.of ?_; conv => whnf)
    refine XUnit.storeByte tabOk (t := 5) rfl rfl (r1 := []) (r2 := []) (k := o + (3 + i)) (l := pw i) (Z := Z) (b i % 256) rfl (wrap_u8 (b i)) (by omega) (by omega) ?_
    rw [← hni]
    conv => whnf
    repeat (refine XSame.of ?_; conv => whnf)
    refine ⟨i + 1, ⟨hlt', by dsimp only; omega⟩, ?_, ?_, Ent.refl _⟩
    · conv => whnf
      refine ⟨?_, rfl⟩
      repeat (first | exact FLe.nil | refine FLe.any ?_ | refine FLe.cons ?_ | refine FLe.eq (by rw [wrap_i64 (by omega)]; rfl) ?_)
    · conv => whnf
      exact ⟨⟨rfl, rfl⟩, trivial⟩
  · have hie : i = 12 := by
      simp only [iLt_eq, decide_eq_false_iff_not] at hlt
      omega
    subst hie
    conv => whnf
    repeat (refine XSame.of ?_; conv => whnf)
    refine XVal.of_read (XRead.rowIxAt tabOk (t := 23) rfl rfl rfl rfl 15 rfl (by decide) ?_)
    conv => whnf
    repeat (refine XSame.of ?_; conv => whnf)
    refine XUnit.storeByte tabOk (t := 5) rfl rfl (r1 := []) (r2 := []) (k := o + 15) (l := pw 12) (Z := Z) 0 rfl rfl (by decide) (by omega) ?_
    rw [hend]
    conv => whnf
    repeat (refine XSame.of ?_; conv => whnf)
    exact ⟨_, Ent.refl _, rfl⟩

end Go.Proofs.YtfeoedkmndkbjaaGreatDoor
namespace Go.Proofs.YtfeoedkmndkbjaaGreatDoor
open Go Go.Sx
set_option maxRecDepth 100000
set_option maxHeartbeats 4000000
set_option linter.unusedVariables false
set_option linter.unusedSimpArgs false

def putsD (d : List UInt8) (g : Nat → Ino) : Nat → List UInt8
  | 0 => d
  | n + 1 => putI (putsD d g n) n (g n).1 (g n).2.1 (g n).2.2

theorem putsD_len {d : List UInt8} (hd : d.length = 12288) (g : Nat → Ino) : ∀ {n : Nat}, n ≤ 32 → (putsD d g n).length = 12288
  | 0, _ => hd
  | n + 1, h => putI_len (putsD_len hd g (by omega)) (by omega) _ _ _

/-- The disk that done makes. -/
def doneD (d : List UInt8) (g : Nat → Ino) (bits : List UInt8) : List UInt8 := setBmp (putsD d g 32) bits

theorem doneD_len {d : List UInt8} (hd : d.length = 12288) (g : Nat → Ino) {bits : List UInt8} (hb : bits.length = 12) : (doneD d g bits).length = 12288 := setBmp_len (putsD_len hd g (Nat.le_refl _)) hb

theorem inoG_all (X : Value) (g : Nat → Ino) (Y : Value) : ((vwG X g Y).drop 1).take 448 = inoG g 32 := by
  unfold vwG
  rw [List.drop_succ_cons, List.drop_zero]
  exact List.take_left' (inoG_len g 32)

theorem done_spec (bd bv cap : Nat) (d : List UInt8) (Z : List Value) (hd : d.length = 12288) (hcap : d.length ≤ cap) (g : Nat → Ino) (hg : ∀ n, (g n).1 ≤ 1000000 ∧ (g n).2.1 ≤ 1000000 ∧ ∀ i, (g n).2.2 i ≤ 1000000) (k : Hd) (hk : k.Ok 12) (bits : List UInt8) (hb : bits.length = 12) :
    RowsSpec Tryz.prog 65 [.pointer (some ⟨bv, 0, none⟩)] [(bd, Row.c (d.map byteV ++ Z)), (bv, Row.c (vwG (.slice (some ⟨bd, 0, none⟩) d.length cap) g (k.v 12)))] (fun w => By w k bits)
      (fun v F => v = .slice (some ⟨bd, 0, none⟩) d.length cap ∧ F = ⟨fun _ => True, [(bd, Row.c ((doneD d g bits).map byteV ++ Z))]⟩) := by
  have hV := vwG_len (.slice (some ⟨bd, 0, none⟩) d.length cap) g (k.v 12)
  have hl := vw_last (.slice (some ⟨bd, 0, none⟩) d.length cap) g (k.v 12)
  have h0 : (vwG (.slice (some ⟨bd, 0, none⟩) d.length cap) g (k.v 12))[0]? = some (.slice (some ⟨bd, 0, none⟩) d.length cap) := rfl
  have hall := inoG_all (.slice (some ⟨bd, 0, none⟩) d.length cap) g (k.v 12)
  have hpl := fun n (h : n ≤ 32) => putsD_len hd g h
  have hgl := inoG_len g 32
  have hga := fun n (h : n < 32) => inoG_at g [] h
  have hok : (⟨some ⟨bd, 0, none⟩, cap⟩ : Hd).Ok d.length := ⟨fun h => (by cases h), hcap⟩
  have hdd : doneD d g bits = lay (putsD d g 32) 1664 bits := rfl
  have hp0 : putsD d g 0 = d := rfl
  have hpn : ∀ n, putsD d g (n + 1) = lay (putsD d g n) (1792 + 16 * n) (inoB (g n).1 (g n).2.1 (g n).2.2) := fun n => rfl
  generalize doneD d g bits = dd at *
  generalize putsD d g = pd at *
  generalize hVe : vwG (.slice (some ⟨bd, 0, none⟩) d.length cap) g (k.v 12) = V at *
  generalize hGe : inoG g 32 = G at *
  refine RowsSpec.of_xc tabOk Tryz.func65 rfl (by decide) (n := Tryz.f65.ntmps - 1) rfl rfl (by simp) fun w0 av => ?_
  conv => whnf
  repeat (refine XSame.of ?_; conv => whnf)
  refine XVal.of_read (XRead.loads tabOk (t := 103) rfl rfl (ad := ⟨bv, 0, none⟩) (k := 1) (L := V) (m := G) (Sees.row (by simp)) (by rfl) hall (by rw [hgl]) ?_)
  conv => whnf
  repeat (refine XSame.of ?_; conv => whnf)
  refine XStop.loop tabOk (ι := Nat) ([3, 4] ++ List.range' 9 10) (fun x => x ≤ 32)
    (fun x => [(9, .v (.int .i64 (x : Int)))]) (fun _ => []) (fun x => ⟨fun w => By w k bits, [(bd, Row.c ((pd x).map byteV ++ Z)), (bv, Row.c V)]⟩)
    (fun x => 32 - x) 0 (Nat.zero_le _) ?_ rfl (Ent.of_le ⟨by rw [hp0]; exact List.Sublist.refl _, fun w hw => hw⟩) fun i hi => ?_
  · conv => whnf
    repeat (first | exact FLe.nil | refine FLe.any ?_ | refine FLe.cons ?_)
  have hpi := hpl i hi
  have hni := hpn i
  conv => whnf
  refine XIf.split (fun hlt => ?_) (fun hlt => ?_)
  · have hlt' : i < 32 := by
      simp only [iLt_eq, decide_eq_true_eq] at hlt
      omega
    have hgi := hg i
    have hgai := hga i hlt'
    rw [List.append_nil, Nat.mul_comm] at hgai
    have hpo := iput_spec bd (pd i) Z (1792 + 16 * i) (cap - (1792 + 16 * i)) (g i).1 (g i).2.1 (g i).2.2 (by omega) hgi.1 hgi.2.1 hgi.2.2
    rw [← hni] at hpo
    conv => whnf
    repeat (refine XSame.of ?_; conv => whnf)
    refine XVal.of_read (XRead.indexAggs tabOk (t := 103) rfl rfl rfl rfl (m := inoV (g i)) i rfl hlt' hgai (by rw [hgl]; show i * 14 + 14 ≤ _; omega) ?_)
    conv => whnf
    repeat (refine XSame.of ?_; conv => whnf)
    intro b4
    conv => whnf
    repeat (refine XSame.of ?_; conv => whnf)
    refine XStop.draw tabOk mixed rfl rfl ?_
    conv => whnf
    repeat' (first
      | (refine And.intro ?_ ?_ <;> conv => whnf)
      | (refine XHeld.same rfl ?_; conv => whnf)
      | (refine XHeld.row rfl ?_; conv => whnf)
      | (refine XHeld.call rfl ?_; conv => whnf)
      | (refine XKeep.of ?_; conv => whnf)
      | (refine XSame.of ?_; conv => whnf)
      | (refine XCall.look (place_spec bv V ⟨some ⟨bd, 0, none⟩, cap⟩ d.length h0 hok hd i hlt') (Loc.row _ _) (fun w hst => Sees.row (by simp) w hst) ?_; rw [sub_row (by omega)]; conv => whnf)
      | (refine XCall.rows (r1 := []) (r2 := [(bv, Row.c V)]) hpo (fun w hw => trivial) (fun v F hv => ?_); subst hv; conv => whnf)
      | (refine XHeld.mk ?_ ?_; (focus (first | exact Ent.refl _ | exact Ent.left _ _ | exact Ent.of_le ⟨List.sublist_append_left _ _, fun w h => h⟩ | exact Ent.of_le ⟨List.Sublist.refl _, fun w h => h.1⟩)); conv => whnf))
    all_goals
      refine ⟨i + 1, ⟨hlt', by dsimp only; omega⟩, ?_, ?_, Ent.of_le ⟨by simp, fun w hw => hw.1⟩⟩
      · conv => whnf
        refine ⟨?_, rfl⟩
        repeat (first | exact FLe.nil | refine FLe.any ?_ | refine FLe.cons ?_ | refine FLe.eq (by rw [wrap_i64 (by omega)]; rfl) ?_)
      · conv => whnf
        exact trivial
  · have hie : i = 32 := by
      simp only [iLt_eq, decide_eq_false_iff_not] at hlt
      omega
    subst hie
    conv => whnf
    repeat (refine XSame.of ?_; conv => whnf)
    refine XStop.draw tabOk mixed rfl rfl ?_
    conv => whnf
    repeat' (first
      | (refine And.intro ?_ ?_ <;> conv => whnf)
      | (refine XHeld.same rfl ?_; conv => whnf)
      | (refine XHeld.row rfl ?_; conv => whnf)
      | (refine XHeld.call rfl ?_; conv => whnf)
      | (refine XKeep.of ?_; conv => whnf)
      | (refine XSame.of ?_; conv => whnf)
      | (refine XCall.look (vblock_spec bv V ⟨some ⟨bd, 0, none⟩, cap⟩ d.length h0 hok hd 13 (by decide)) (Loc.row _ _) (fun w hst => Sees.row (by simp) w hst) ?_; rw [sub_row (by omega)]; conv => whnf)
      | (refine XRead.loadF tabOk (t := 23) rfl rfl (ad := ⟨bv, 0, none⟩) (k := 449) (L := V) (v := k.v 12) (Sees.row (by simp)) (fun _ => rfl) hl ?_; conv => whnf)
      | (refine XVal.copyB tabOk (t := 23) rfl rfl rfl rfl (r1 := []) (r2 := [(bv, Row.c V)]) (b := bd) (k := 1664) (l := pd 32) (m := bits) (Z := Z) rfl (.fact fun w hw => hw) hb (by decide) (by omega) ?_; rw [← hdd]; conv => whnf)
      | (refine XHeld.mk ?_ ?_; (focus (first | exact Ent.refl _ | exact Ent.left _ _ | exact Ent.of_le ⟨List.sublist_append_left _ _, fun w h => h⟩ | exact Ent.of_le ⟨List.Sublist.refl _, fun w h => h.1⟩)); conv => whnf))
    all_goals
      refine XVal.of_read (XRead.loadF tabOk (t := 23) rfl rfl (ad := ⟨bv, 0, none⟩) (k := 0) (L := V) (v := .slice (some ⟨bd, 0, none⟩) d.length cap) (Sees.row (by simp)) (fun _ => rfl) h0 ?_)
      conv => whnf
      repeat (refine XSame.of ?_; conv => whnf)
      exact ⟨⟨fun _ => True, [(bd, Row.c (dd.map byteV ++ Z))]⟩, Ent.of_le ⟨by simp, fun w _ => trivial⟩, rfl, rfl⟩

end Go.Proofs.YtfeoedkmndkbjaaGreatDoor
namespace Go.Proofs.YtfeoedkmndkbjaaGreatDoor
open Go Go.Sx
set_option maxRecDepth 100000
set_option maxHeartbeats 4000000
set_option linter.unusedVariables false
set_option linter.unusedSimpArgs false

theorem byt_putI {d : List UInt8} (hd : d.length = 12288) {n : Nat} (hn : n < 32) (k s : Nat) (b : Nat → Nat) (m : Nat) :
    byt (putI d n k s b) m = if 1792 + 16 * n ≤ m ∧ m < 1792 + 16 * n + 16 then byt (inoB k s b) (m - (1792 + 16 * n)) else byt d m := by
  unfold putI
  rw [byt_lay (by rw [inoB_len]; omega), inoB_len]

theorem byt_setBmp {d b : List UInt8} (hd : d.length = 12288) (hb : b.length = 12) (m : Nat) : byt (setBmp d b) m = if 1664 ≤ m ∧ m < 1676 then byt b (m - 1664) else byt d m := by
  unfold setBmp
  rw [byt_lay (by omega), hb]

theorem byt_puts {d : List UInt8} (hd : d.length = 12288) (g : Nat → Ino) : ∀ {N : Nat}, N ≤ 32 → ∀ m,
    byt (putsD d g N) m = if 1792 ≤ m ∧ m < 1792 + 16 * N then byt (inoB (g ((m - 1792) / 16)).1 (g ((m - 1792) / 16)).2.1 (g ((m - 1792) / 16)).2.2) ((m - 1792) % 16) else byt d m
  | 0, _, m => by
    rw [if_neg (by omega)]
    rfl
  | N + 1, hN, m => by
    unfold putsD
    rw [byt_putI (putsD_len hd g (by omega)) (by omega), byt_puts hd g (show N ≤ 32 by omega)]
    by_cases h1 : 1792 + 16 * N ≤ m ∧ m < 1792 + 16 * N + 16
    · rw [if_pos h1, if_pos (by omega), show (m - 1792) / 16 = N by omega, show m - (1792 + 16 * N) = (m - 1792) % 16 by omega]
    · rw [if_neg h1]
      by_cases h2 : 1792 ≤ m ∧ m < 1792 + 16 * N
      · rw [if_pos h2, if_pos (by omega)]
      · rw [if_neg h2, if_neg (by omega)]

theorem byt_dIno {d : List UInt8} {n : Nat} (hp : rp d n = 0) {r : Nat} (hr : r < 16) : byt (inoB (rk d n) (rs d n) (rb d n)) r = byt d (1792 + 16 * n + r) := by
  obtain ⟨h0, h1, h2, h3⟩ := byt_inoB0 (rk d n) (rs d n) (rb d n)
  have hb1 := byt_lt d (1792 + 16 * n + 1)
  have hb2 := byt_lt d (1792 + 16 * n + 2)
  by_cases e0 : r = 0
  · subst e0
    rw [h0, Nat.mod_eq_of_lt (rk_lt d n)]
    rfl
  by_cases e1 : r = 1
  · subst e1
    rw [h1]
    unfold rs
    omega
  by_cases e2 : r = 2
  · subst e2
    rw [h2]
    unfold rs
    omega
  by_cases e3 : r = 15
  · subst e3
    rw [h3]
    unfold rp at hp
    exact hp.symm
  obtain ⟨j, rfl⟩ : ∃ j, r = 3 + j := ⟨r - 3, by omega⟩
  rw [byt_inoB _ _ _ (by omega), Nat.mod_eq_of_lt (rb_lt d n j)]
  rfl

/-- One inode of a consistent disk is changed, and the bitmap. -/
theorem doneD_one {d e bits : List UInt8} (ho : Ok37 d) (he : e.length = 12288) (hb : bits.length = 12) (hin : ∀ m, 1792 ≤ m → m < 2304 → byt e m = byt d m) {n : Nat} (hn : n < 32) (i : Ino) :
    doneD e (upd (dIno d) n i) bits = setBmp (putI e n i.1 i.2.1 i.2.2) bits := by
  have hpl := putI_len he hn i.1 i.2.1 i.2.2
  refine byt_ext (by rw [doneD_len he _ hb, setBmp_len hpl hb]) fun m hm => ?_
  unfold doneD
  rw [byt_setBmp (putsD_len he _ (Nat.le_refl _)) hb, byt_setBmp hpl hb]
  by_cases h1 : 1664 ≤ m ∧ m < 1676
  · rw [if_pos h1, if_pos h1]
  rw [if_neg h1, if_neg h1, byt_puts he _ (Nat.le_refl _), byt_putI he hn]
  by_cases h2 : 1792 ≤ m ∧ m < 1792 + 16 * 32
  · rw [if_pos h2]
    by_cases h3 : (m - 1792) / 16 = n
    · rw [if_pos (by omega)]
      unfold upd
      rw [if_pos h3, show (m - 1792) % 16 = m - (1792 + 16 * n) by omega]
    · rw [if_neg (by omega), hin m (by omega) (by omega)]
      unfold upd
      rw [if_neg h3]
      have hf := ho.form ((m - 1792) / 16) (by omega)
      unfold formB at hf
      rw [Bool.and_eq_true, decide_eq_true_eq] at hf
      show byt (inoB (rk d _) (rs d _) (rb d _)) _ = _
      rw [byt_dIno hf.1 (by omega)]
      congr 1
      omega
  · rw [if_neg h2, if_neg (by omega)]

theorem Ent.shareLast {D : World → Prop} {b : Nat} {C : List Value} {rs : List (Nat × Row)} : Ent ⟨D, rs ++ [(b, Row.c C)]⟩ ⟨fun w => D w ∧ RowAt w (some ⟨b, 0, none⟩) C, rs⟩ :=
  (Ent.perm List.perm_append_comm).trans Ent.share1

/-- A view (or nil), with its bits as a fact, and an error. -/
def RelVF (d : List UInt8) (e : Nat) (v : Value) (F : Fx) : Prop :=
  if e = 0 then ∃ bd bv cap Z, ∃ k : Hd, v = .tuple #[.pointer (some ⟨bv, 0, none⟩), .int .i64 (e : Int)] ∧ d.length ≤ cap ∧ k.Ok 12 ∧
    F = ⟨fun w => By w k (bmp d), [(bd, Row.c (d.map byteV ++ Z)), (bv, Row.c (vwG (.slice (some ⟨bd, 0, none⟩) d.length cap) (dIno d) (k.v 12)))]⟩
  else v = .tuple #[.pointer none, .int .i64 (e : Int)] ∧ F = ⟨fun _ => True, []⟩

theorem openF_spec (d : List UInt8) (h : Hd) (hh : h.Ok d.length) (hl : d.length ≤ 1000000) : PureSpec Tryz.prog 121 [h.v d.length] (fun w => By w h d) (RelVF d (chk d)) :=
  (open37_spec d h hh hl).weaken fun v F hv => by
    have hce := chkP_eq d
    rw [hce] at hv
    unfold RelV at hv
    split at hv
    · rename_i h0
      obtain ⟨bd, bv, bb, cap, Z, rfl, hcap, rfl⟩ := hv
      obtain ⟨hd, hok⟩ := chk_zero h0
      have hbits := ((okP_iff hd).2 hok).bits
      have hbm : (bmP (used d 32) 96).take 12 = bmp d := by
        rw [← hbits]
        unfold bmp cut
        rw [List.take_take]
        rfl
      refine ⟨⟨fun w => By w ⟨some ⟨bb, 0, none⟩, 128⟩ (bmp d), _⟩, ?_, by
        unfold RelVF
        rw [if_pos h0]
        exact ⟨bd, bv, cap, Z, ⟨some ⟨bb, 0, none⟩, 128⟩, rfl, hcap, ⟨fun h => (by cases h), by show 12 ≤ 128; decide⟩, by rw [← viewC_vw]⟩⟩
      refine (Ent.shareLast (rs := [(bd, _), (bv, _)]) (b := bb) (C := (bmP (used d 32) 96).map byteV ++ [])).trans (Ent.imp fun w hw => ?_)
      have h5 := hw.2.take 12
      rw [List.append_nil, ← List.map_take, hbm] at h5
      exact h5
    · rename_i h0
      obtain ⟨rfl, rfl⟩ := hv
      exact ⟨_, Ent.refl _, by
        unfold RelVF
        rw [if_neg h0]
        exact ⟨rfl, rfl⟩⟩

/-- What with hands back. -/
def RelW (d : List UInt8) (n : Int) (v : Value) (F : Fx) : Prop :=
  if chk d = 0 then ∃ bd bv cap Z, ∃ k : Hd, v = .tuple #[.pointer (some ⟨bv, 0, none⟩), .agg ⟨inoV (getGi (dIno d) n)⟩, .int .i64 (getGe (dIno d) n : Int)] ∧ d.length ≤ cap ∧ k.Ok 12 ∧
    F = ⟨fun w => By w k (bmp d), [(bd, Row.c (d.map byteV ++ Z)), (bv, Row.c (vwG (.slice (some ⟨bd, 0, none⟩) d.length cap) (dIno d) (k.v 12)))]⟩
  else v = .tuple #[.pointer none, .agg ⟨inoV (0, 0, fun _ => 0)⟩, .int .i64 (chk d : Int)] ∧ F = ⟨fun _ => True, []⟩

theorem with_spec (d : List UInt8) (h : Hd) (hh : h.Ok d.length) (hl : d.length ≤ 1000000) (n : Int) : PureSpec Tryz.prog 73 [h.v d.length, .int .i64 n] (fun w => By w h d) (RelW d n) := by
  refine PureSpec.of_xc tabOk Tryz.func73 rfl (by decide) (n := Tryz.f73.ntmps - 2) rfl rfl fun w0 av => ?_
  conv => whnf
  intro b5
  conv => whnf
  refine XCall.pure (openF_spec d h hh hl) (fun w hw => hw) (fun v D hv => ?_)
  unfold RelVF at hv
  split at hv
  · rename_i h0
    have hR : ∀ v F, _ → RelW d n v F := fun v F h => by
      unfold RelW
      rw [if_pos h0]
      exact h
    generalize RelW d n = RW at hR ⊢
    obtain ⟨bd, bv, cap, Z, k, rfl, hcap, hk, rfl⟩ := hv
    generalize chk d = e at *
    have hvg := vget_spec bv (.slice (some ⟨bd, 0, none⟩) d.length cap) (dIno d) (k.v 12) n
    generalize getGi (dIno d) n = i at *
    generalize getGe (dIno d) n = ge at *
    generalize hVe : vwG (.slice (some ⟨bd, 0, none⟩) d.length cap) (dIno d) (k.v 12) = V at *
    conv => whnf
    repeat (refine XSame.of ?_; conv => whnf)
    refine XIf.no (by subst h0; simp [iNe_eq]) ?_
    conv => whnf
    refine XCall.look hvg (Loc.row _ _) (fun w hst => Sees.row (by simp [Fx.and]) w hst) ?_
    conv => whnf
    repeat (refine XSame.of ?_; conv => whnf)
    intro b9
    conv => whnf
    repeat (refine XSame.of ?_; conv => whnf)
    refine XStop.draw tabOk mixed rfl rfl ?_
    conv => whnf
    repeat' (first
      | (refine And.intro ?_ ?_ <;> conv => whnf)
      | (refine XHeld.same rfl ?_; conv => whnf)
      | (refine XHeld.row rfl ?_; conv => whnf)
      | (refine XHeld.call rfl ?_; conv => whnf)
      | (refine XKeep.of ?_; conv => whnf)
      | (refine XSame.of ?_; conv => whnf)
      | (refine XHeld.mk ?_ ?_; (focus (first | exact Ent.refl _ | exact Ent.left _ _ | exact Ent.of_le ⟨List.sublist_append_left _ _, fun w h => h⟩ | exact Ent.of_le ⟨List.Sublist.refl _, fun w h => h.1⟩)); conv => whnf))
    refine ⟨⟨fun w => By w k (bmp d), [(bd, Row.c (d.map byteV ++ Z)), (bv, Row.c V)]⟩, Ent.of_le ⟨by simp [Fx.and], fun w hw => hw.2⟩, hR _ _ ⟨bd, bv, cap, Z, k, rfl, hcap, hk, by rw [hVe]⟩⟩
  · rename_i h0
    have hR : ∀ v F, _ → RelW d n v F := fun v F h => by
      unfold RelW
      rw [if_neg h0]
      exact h
    generalize RelW d n = RW at hR ⊢
    obtain ⟨rfl, rfl⟩ := hv
    generalize chk d = e at *
    conv => whnf
    repeat (refine XSame.of ?_; conv => whnf)
    refine XIf.yes (by simp [iNe_eq]; omega) ?_
    conv => whnf
    repeat (refine XSame.of ?_; conv => whnf)
    exact ⟨⟨fun _ => True, []⟩, Ent.bare fun w _ => trivial, hR _ _ ⟨rfl, rfl⟩⟩

theorem pgete (d : List UInt8) (n : Int) (h : chk d = 0) : getGe (dIno d) n = gete d n := by
  unfold gete
  rw [if_neg (show ¬ chk d ≠ 0 by rw [h]; simp)]
  rfl

theorem pGet_spec (d : List UInt8) (h : Hd) (hh : h.Ok d.length) (hl : d.length ≤ 1000000) (n : Int) :
    PureSpec Tryz.prog 46 [h.v d.length, .int .i64 n] (fun w => By w h d) (fun v F => v = .tuple #[.agg ⟨getL d n⟩, .int .i64 (gete d n : Int)]) := by
  refine PureSpec.of_xc tabOk Tryz.func46 rfl (by decide) (n := Tryz.f46.ntmps - 2) rfl rfl fun w0 av => ?_
  conv => whnf
  intro b4
  conv => whnf
  refine XCall.val (with_spec d h hh hl n) (fun w hw => hw) (fun v D hv => ?_)
  unfold RelW at hv
  split at hv
  · rename_i h0
    obtain ⟨bd, bv, cap, Z, k, rfl, hcap, hk, rfl⟩ := hv
    have hL : getL d n = inoV (getGi (dIno d) n) := by
      unfold getL getGi
      rw [pgete d n h0]
      split <;> rfl
    rw [hL, ← pgete d n h0]
    generalize getGi (dIno d) n = i at *
    generalize getGe (dIno d) n = ge at *
    conv => whnf
    repeat (refine XSame.of ?_; conv => whnf)
    intro b7
    conv => whnf
    repeat (refine XSame.of ?_; conv => whnf)
    exact ⟨_, Ent.refl _, rfl⟩
  · rename_i h0
    obtain ⟨rfl, rfl⟩ := hv
    have he : gete d n = chk d := by
      unfold gete
      rw [if_pos h0]
    have hL : getL d n = inoV (0, 0, fun _ => 0) := by
      unfold getL
      rw [if_neg (by rw [he]; exact h0)]
      rfl
    rw [hL, he]
    generalize chk d = e at *
    conv => whnf
    repeat (refine XSame.of ?_; conv => whnf)
    intro b7
    conv => whnf
    repeat (refine XSame.of ?_; conv => whnf)
    exact ⟨_, Ent.refl _, rfl⟩

end Go.Proofs.YtfeoedkmndkbjaaGreatDoor
namespace Go.Proofs.YtfeoedkmndkbjaaGreatDoor
open Go Go.Sx
set_option maxRecDepth 100000
set_option maxHeartbeats 4000000
set_option linter.unusedVariables false
set_option linter.unusedSimpArgs false

theorem isFree_spec (i : Ino) : PureSpec Tryz.prog 123 [.agg ⟨inoV i⟩] (fun w => True) (fun v F => v = .bool (decide (i.1 = 0))) := by
  refine PureSpec.of_xc tabOk Tryz.func123 rfl (by decide) (n := Tryz.f123.ntmps - 1) rfl rfl fun w0 av => ?_
  conv => whnf
  intro b1
  conv => whnf
  repeat (refine XSame.of ?_; conv => whnf)
  exact ⟨_, Ent.refl _, congrArg Value.bool (iEq_nat i.1 0)⟩

theorem indexIno_spec (bv : Nat) (X Y : Value) (d : List UInt8) : PureSpec Tryz.prog 122 [.slice (some ⟨bv, 1, none⟩) 32 32, .func (.func 123) #[] #[]] (fun w => RowAt w (some ⟨bv, 0, none⟩) (vwG X (dIno d) Y)) (fun v F => v = .int .i64 (fint (freeI d))) := by
  have ha := fun m (hm : m < 32) => vw_at X (dIno d) Y hm
  generalize hVe : vwG X (dIno d) Y = V at *
  refine PureSpec.of_xc tabOk Tryz.func122 rfl (by decide) (n := Tryz.f122.ntmps - 2) rfl rfl fun w0 av => ?_
  conv => whnf
  refine XStop.loop tabOk (ι := Nat) ([5] ++ List.range' 8 11) (fun x => x ≤ 32 ∧ ∀ j, j < x → rk d j ≠ 0)
    (fun x => [(8, .v (.int .i64 (x : Int)))]) (fun _ => []) (fun _ => ⟨fun w => RowAt w (some ⟨bv, 0, none⟩) V, []⟩)
    (fun x => 32 - x) 0 ⟨Nat.zero_le _, fun j hj => by omega⟩ ?_ rfl (Ent.refl _) fun i hi => ?_
  · conv => whnf
    repeat (first | exact FLe.nil | refine FLe.any ?_ | refine FLe.cons ?_)
  obtain ⟨hi, hall⟩ := hi
  conv => whnf
  refine XIf.split (fun hlt => ?_) (fun hlt => ?_)
  · have hlt' : i < 32 := by
      simp only [iLt_eq, decide_eq_true_eq] at hlt
      omega
    conv => whnf
    repeat (refine XSame.of ?_; conv => whnf)
    refine XVal.of_read (XRead.index tabOk (t := 169) rfl rfl rfl (by omega) (by omega) (fun h => by cases h) fun ad had => ?_)
    obtain rfl : ad = ⟨bv, 1, none⟩ := by cases had; rfl
    conv => whnf
    repeat (refine XSame.of ?_; conv => whnf)
    refine XVal.of_read (XRead.loads tabOk (t := 82) rfl rfl (ad := ⟨bv, 0, none⟩) (k := 1 + 14 * i) (L := V) (m := inoV (dIno d i)) (.fact fun w hw => hw) (by simp only [Addr.add_none]; congr 1; show 1 + (Int.toNat (i : Int)) * 14 = _; rw [Int.toNat_natCast]; omega) (ha i hlt') rfl ?_)
    conv => whnf
    repeat (refine XSame.of ?_; conv => whnf)
    refine XCall.val (isFree_spec (dIno d i)) (fun w hw => trivial) (fun v D hv => ?_)
    generalize hz : decide ((dIno d i).1 = 0) = cz at hv
    subst hv
    have hz2 : cz = decide (rk d i = 0) := hz.symm
    cases cz
    · have hz' : rk d i ≠ 0 := by simpa using hz2
      conv => whnf
      refine ⟨i + 1, ⟨⟨hlt', fun j hj => ?_⟩, by dsimp only; omega⟩, ?_, ?_, Ent.refl _⟩
      · rcases Nat.lt_or_eq_of_le (Nat.lt_succ_iff.1 hj) with h1 | h1
        · exact hall j h1
        · rw [h1]; exact hz'
      · conv => whnf
        refine ⟨?_, rfl⟩
        repeat (first | exact FLe.nil | refine FLe.any ?_ | refine FLe.cons ?_ | refine FLe.eq (by rw [wrap_i64 (by omega)]; rfl) ?_)
      · conv => whnf
        exact trivial
    · have hz' : rk d i = 0 := by simpa using hz2
      conv => whnf
      refine ⟨_, Ent.refl _, ?_⟩
      rw [freeI_some hlt' hall hz']
      rfl
  · have hie : i = 32 := by
      simp only [iLt_eq, decide_eq_false_iff_not] at hlt
      omega
    subst hie
    conv => whnf
    refine ⟨_, Ent.refl _, ?_⟩
    rw [freeI_none hall]
    rfl

theorem freeI_lt {d : List UInt8} {n : Nat} (h : freeI d = some n) : n < 32 ∧ rk d n = 0 := by
  unfold freeI at h
  have h1 := List.mem_of_find?_eq_some h
  have h2 := List.find?_some h
  exact ⟨List.mem_range.1 h1, by simpa using h2⟩

theorem zeros_byteV (n : Nat) : List.replicate n (Value.int .u8 0) = (List.replicate n (0 : UInt8)).map byteV := by
  rw [List.map_replicate]
  rfl

theorem allocR_one {d : List UInt8} (h0 : chk d = 0) {n : Nat} (hf : freeI d = some n) : allocR d 1 = (n, doneD d (upd (dIno d) n (1, 0, fun _ => 0)) (bmp d), 0) := by
  obtain ⟨hd, hok⟩ := chk_zero h0
  have hn := (freeI_lt hf).1
  have hb := bmp_len hd
  rw [doneD_one hok hd hb (fun m _ _ => rfl) hn]
  have hpl := putI_len hd hn 1 0 (fun _ => 0)
  have e : setBmp (putI d n 1 0 fun _ => 0) (bmp d) = putI d n 1 0 fun _ => 0 := by
    refine byt_ext (setBmp_len hpl hb |>.trans hpl.symm) fun m hm => ?_
    rw [byt_setBmp hpl hb]
    by_cases h1 : 1664 ≤ m ∧ m < 1676
    · rw [if_pos h1, byt_putI hd hn, if_neg (by omega)]
      unfold bmp
      rw [byt_cut (by omega) (by omega)]
      congr 1
      omega
    · rw [if_neg h1]
  dsimp only
  rw [e]
  unfold allocR
  rw [if_neg (show ¬ chk d ≠ 0 by rw [h0]; simp), hf]
  rfl

theorem allocR_two {d : List UInt8} (h0 : chk d = 0) {n x : Nat} (hf : freeI d = some n) (hx : freeB (bmp d) = some x) :
    allocR d 2 = (n, doneD (lay d (128 * x) (List.replicate 128 0)) (upd (dIno d) n (2, 128, fun i => if i = 0 then x else 0)) (putB (bmp d) x true), 0) := by
  obtain ⟨hd, hok⟩ := chk_zero h0
  have hn := (freeI_lt hf).1
  obtain ⟨hx1, hx2⟩ := freeB_lt hx
  have hb := bmp_len hd
  have hpb : (putB (bmp d) x true).length = 12 := by rw [putB_len, hb]
  have hz : (List.replicate 128 (0 : UInt8)).length = 128 := List.length_replicate
  have hel : (lay d (128 * x) (List.replicate 128 0)).length = 12288 := by rw [lay_len (by rw [hz]; omega), hd]
  have hbe : ∀ m, byt (lay d (128 * x) (List.replicate 128 0)) m = if 128 * x ≤ m ∧ m < 128 * x + 128 then byt (List.replicate 128 0) (m - 128 * x) else byt d m := fun m => by
    rw [byt_lay (by rw [hz]; omega), hz]
  rw [doneD_one hok hel hpb (fun m h1 h2 => by rw [hbe, if_neg (by omega)]) hn]
  have e : setBmp (putI (lay d (128 * x) (List.replicate 128 0)) n 2 128 fun i => if i = 0 then x else 0) (putB (bmp d) x true) = putI (takeD d x) n 2 128 fun i => if i = 0 then x else 0 := by
    have htl := takeD_len hd hx2
    have hp1 := putI_len hel hn 2 128 (fun i => if i = 0 then x else 0)
    have hp2 := putI_len htl hn 2 128 (fun i => if i = 0 then x else 0)
    have hsl := setBmp_len hd hpb
    refine byt_ext (by rw [setBmp_len hp1 hpb, hp2]) fun m hm => ?_
    rw [byt_setBmp hp1 hpb, byt_putI hel hn, byt_putI htl hn, hbe]
    unfold takeD
    rw [byt_lay (by rw [hz]; omega), hz, byt_setBmp hd hpb]
    by_cases h1 : 1664 ≤ m ∧ m < 1676
    · rw [if_pos h1, if_neg (by omega), if_neg (by omega), if_pos h1]
    · rw [if_neg h1, if_neg h1]
  dsimp only
  rw [e]
  unfold allocR
  rw [if_neg (show ¬ chk d ≠ 0 by rw [h0]; simp), hf]
  dsimp only
  rw [if_pos rfl, hx]

end Go.Proofs.YtfeoedkmndkbjaaGreatDoor
namespace Go.Proofs.YtfeoedkmndkbjaaGreatDoor
open Go Go.Sx
set_option maxRecDepth 100000
set_option maxHeartbeats 4000000
set_option linter.unusedVariables false
set_option linter.unusedSimpArgs false

theorem relN_row {D : World → Prop} {b cap n e : Nat} {d : List UInt8} {Z : List Value} {m : Nat} (hm : m = d.length) (hc : m ≤ cap) : ∃ F', Ent ⟨D, [(b, Row.c (d.map byteV ++ Z))]⟩ F' ∧ RelN n d e (.tuple #[.int .i64 (n : Int), .slice (some ⟨b, 0, none⟩) m cap, .int .i64 (e : Int)]) F' := by
  subst hm
  exact ⟨⟨fun w => By w ⟨some ⟨b, 0, none⟩, cap⟩ d, []⟩, Ent.giveB (r1 := []) (r2 := []), ⟨some ⟨b, 0, none⟩, cap⟩, rfl, ⟨fun h => (by cases h), hc⟩, rfl⟩

theorem dIno_small (d : List UInt8) (n : Nat) : (dIno d n).1 ≤ 1000000 ∧ (dIno d n).2.1 ≤ 1000000 ∧ ∀ i, (dIno d n).2.2 i ≤ 1000000 := by
  refine ⟨?_, ?_, fun i => ?_⟩
  · have := rk_lt d n
    show rk d n ≤ _
    omega
  · have := rs_lt d n
    show rs d n ≤ _
    omega
  · have := rb_lt d n i
    show rb d n i ≤ _
    omega

theorem upd_small {d : List UInt8} {n : Nat} {i : Ino} (hi : i.1 ≤ 1000000 ∧ i.2.1 ≤ 1000000 ∧ ∀ j, i.2.2 j ≤ 1000000) (m : Nat) : (upd (dIno d) n i m).1 ≤ 1000000 ∧ (upd (dIno d) n i m).2.1 ≤ 1000000 ∧ ∀ j, (upd (dIno d) n i m).2.2 j ≤ 1000000 := by
  unfold upd
  split
  · exact hi
  · exact dIno_small d m

theorem palloc_spec (d : List UInt8) (h : Hd) (hh : h.Ok d.length) (hl : d.length ≤ 1000000) (kind : Nat) (hk : kind = 1 ∨ kind = 2) :
    PureSpec Tryz.prog 71 [h.v d.length, .int .i64 (kind : Int)] (fun w => By w h d) (RelN (allocR d kind).1 (allocR d kind).2.1 (allocR d kind).2.2) := by
  refine PureSpec.of_xc tabOk Tryz.func71 rfl (by decide) (n := Tryz.f71.ntmps - 2) rfl rfl fun w0 av => ?_
  conv => whnf
  refine XCall.pure (openF_spec d h hh hl) (fun w hw => hw) (fun v D hv => ?_)
  unfold RelVF at hv
  split at hv
  rotate_left
  · rename_i h0
    obtain ⟨rfl, rfl⟩ := hv
    have : allocR d kind = (0, [], chk d) := by
      unfold allocR
      rw [if_pos h0]
    rw [this]
    generalize chk d = e at *
    conv => whnf
    repeat (refine XSame.of ?_; conv => whnf)
    refine XIf.yes (by simp [iNe_eq]; omega) ?_
    conv => whnf
    repeat (refine XSame.of ?_; conv => whnf)
    exact relN_nil
  rename_i h0
  obtain ⟨hd, hok⟩ := chk_zero h0
  obtain ⟨bd, bv, cap, Z, kb, rfl, hcap, hkb, rfl⟩ := hv
  have hX : ∀ i Y, laid (vwG (.slice (some ⟨bd, 0, none⟩) d.length cap) (dIno d) Y) (1 + 14 * i) = laid (vwG (.slice (some ⟨bd, 0, none⟩) d.length cap) (dIno d) Y) (1 + 14 * i) := fun _ _ => rfl
  have hh0 : (⟨some ⟨bd, 0, none⟩, cap⟩ : Hd).Ok d.length := ⟨fun h => (by cases h), hcap⟩
  have hidx := indexIno_spec bv (.slice (some ⟨bd, 0, none⟩) d.length cap) (kb.v 12) d
  have hbm := bmp_len hd
  obtain ⟨e0, he0⟩ : ∃ e : Nat, e = chk d := ⟨_, rfl⟩
  rw [← he0]
  rw [h0] at he0
  conv => whnf
  repeat (refine XSame.of ?_; conv => whnf)
  refine XIf.no (by subst he0; simp [iNe_eq]) ?_
  conv => whnf
  repeat (refine XSame.of ?_; conv => whnf)
  refine XIf.no (by simp [iNe_eq]; omega) ?_
  conv => whnf
  repeat (refine XSame.of ?_; conv => whnf)
  refine XVal.of_read (XRead.sliceArr tabOk (t := 103) rfl rfl rfl rfl ?_)
  conv => whnf
  repeat (refine XSame.of ?_; conv => whnf)
  refine XCall.look hidx (Loc.row _ _) (fun w hst => Sees.row (by simp [Fx.and]) w hst) ?_
  cases hf : freeI d with
  | none =>
    have : allocR d kind = (0, [], 13) := by
      unfold allocR
      rw [if_neg (show ¬ chk d ≠ 0 by rw [h0]; simp), hf]
    rw [this]
    obtain ⟨j, hj⟩ : ∃ j : Int, j = fint none := ⟨_, rfl⟩
    rw [← hj]
    conv => whnf
    repeat (refine XSame.of ?_; conv => whnf)
    refine XIf.yes (by subst hj; simp [iLt_eq, fint]) ?_
    conv => whnf
    repeat (refine XSame.of ?_; conv => whnf)
    exact relN_nil
  | some n =>
    obtain ⟨hn, hk0⟩ := freeI_lt hf
    have hfi : fint (some n) = (n : Int) := rfl
    rw [hfi]
    conv => whnf
    repeat (refine XSame.of ?_; conv => whnf)
    refine XIf.no (by simp [iLt_eq]) ?_
    conv => whnf
    repeat (refine XSame.of ?_; conv => whnf)
    intro b8
    conv => whnf
    repeat (refine XSame.of ?_; conv => whnf)
    refine XIf.split (fun hk2 => ?_) (fun hk2 => ?_)
    · have hk2' : kind = 2 := by
        simp [iEq_eq] at hk2
        omega
      obtain ⟨one, hone⟩ : ∃ one : Int, one = 1 := ⟨_, rfl⟩
      have hvt := vtake_spec bv (.slice (some ⟨bd, 0, none⟩) d.length cap) (dIno d) kb (bmp d) hkb hbm one hone
      unfold RelVT VwF at hvt
      rw [hone] at hvt
      cases hx : freeB (bmp d) with
      | none =>
        rw [hx] at hvt
        have : allocR d kind = (0, [], 13) := by
          unfold allocR
          rw [if_neg (show ¬ chk d ≠ 0 by rw [h0]; simp), hf]
          dsimp only
          rw [if_pos hk2', hx]
        rw [this]
        conv => whnf
        repeat (refine XSame.of ?_; conv => whnf)
        refine XCall.rows (r1 := [(bd, Row.c (d.map byteV ++ Z))]) (r2 := []) hvt (fun w hw => hw.2) (fun v F hv => ?_)
        obtain ⟨r, hr, rfl, rfl⟩ := hv
        conv => whnf
        repeat (refine XSame.of ?_; conv => whnf)
        refine XIf.yes (by subst hr; rfl) ?_
        conv => whnf
        repeat (refine XSame.of ?_; conv => whnf)
        exact relN_nil
      | some x =>
        rw [hx] at hvt
        obtain ⟨hx1, hx2⟩ := freeB_lt hx
        subst hk2'
        have hA := allocR_two h0 hf hx
        have hel : (lay d (128 * x) (List.replicate 128 0)).length = d.length := lay_len (by simp; omega)
        have hpb : (putB (bmp d) x true).length = 12 := by rw [putB_len, hbm]
        have hdl := doneD_len (by rw [hel]; exact hd) (upd (dIno d) n (2, 128, fun i => if i = 0 then x else 0)) hpb
        have hlz : laid (d.map byteV ++ Z) (128 * x) (List.replicate 128 (.int .u8 0)) = (lay d (128 * x) (List.replicate 128 0)).map byteV ++ Z := by
          rw [zeros_byteV, laid_bytes (by simp; omega)]
        rw [hA]
        dsimp only at hvt ⊢
        conv => whnf
        repeat (refine XSame.of ?_; conv => whnf)
        refine XCall.rows (r1 := [(bd, Row.c (d.map byteV ++ Z))]) (r2 := []) hvt (fun w hw => hw.2) (fun v F hv => ?_)
        obtain ⟨l, k2, r, hr, rfl, hlo, hk2o, rfl⟩ := hv
        have hvs := vw_set (.slice (some ⟨bd, 0, none⟩) d.length cap) (dIno d) (k2.v 12) hn (2, 128, fun i => if i = 0 then x else 0)
        have hvl := vwG_len (.slice (some ⟨bd, 0, none⟩) d.length cap) (dIno d) (k2.v 12)
        have hdn := done_spec bd bv cap (lay d (128 * x) (List.replicate 128 0)) Z (by rw [hel]; exact hd) (by rw [hel]; exact hcap) (upd (dIno d) n (2, 128, fun i => if i = 0 then x else 0)) (upd_small ⟨by show 2 ≤ 1000000; decide, by show 128 ≤ 1000000; decide, fun j => by dsimp only; split <;> omega⟩) k2 hk2o (putB (bmp d) x true) hpb
        rw [hel] at hdn
        have h00 : (vwG (.slice (some ⟨bd, 0, none⟩) d.length cap) (dIno d) (k2.v 12))[0]? = some (.slice (some ⟨bd, 0, none⟩) d.length cap) := rfl
        have hvb := vblock_spec bv _ ⟨some ⟨bd, 0, none⟩, cap⟩ d.length h00 hh0 hd x hx2
        generalize doneD (lay d (128 * x) (List.replicate 128 0)) (upd (dIno d) n (2, 128, fun i => if i = 0 then x else 0)) (putB (bmp d) x true) = dd at *
        generalize lay d (128 * x) (List.replicate 128 0) = d2 at *
        generalize putB (bmp d) x true = bits at *
        generalize vwG (.slice (some ⟨bd, 0, none⟩) d.length cap) (upd (dIno d) n (2, 128, fun i => if i = 0 then x else 0)) (k2.v 12) = V2 at *
        generalize vwG (.slice (some ⟨bd, 0, none⟩) d.length cap) (dIno d) (k2.v 12) = V at *
        conv => whnf
        repeat (refine XSame.of ?_; conv => whnf)
        refine XIf.no (by subst hr; rfl) ?_
        conv => whnf
        repeat (refine XSame.of ?_; conv => whnf)
        refine XStop.draw tabOk mixed rfl rfl ?_
        conv => whnf
        repeat' (first
          | (refine And.intro ?_ ?_ <;> conv => whnf)
          | (refine XHeld.same rfl ?_; conv => whnf)
          | (refine XHeld.row rfl ?_; conv => whnf)
          | (refine XHeld.call rfl ?_; conv => whnf)
          | (refine XKeep.of ?_; conv => whnf)
          | (refine XSame.of ?_; conv => whnf)
          | (refine XRead.index tabOk (t := 97) rfl rfl rfl (by omega) (by omega) hlo.nil fun ad had => ?_; conv => whnf)
          | (refine XRead.load tabOk (t := 3) rfl rfl (ad := ad) (k := 0) (L := [intV x]) (v := intV x) (.fact fun w hw => had ▸ hw.2.1) rfl rfl ?_; conv => whnf)
          | (refine XHeld.mk ?_ ?_; (focus (first | exact Ent.refl _ | exact Ent.left _ _ | exact Ent.of_le ⟨List.sublist_append_left _ _, fun w h => h⟩ | exact Ent.of_le ⟨List.Sublist.refl _, fun w h => h.1⟩)); conv => whnf))
        all_goals
          refine XVal.of_read (XRead.index tabOk (t := 97) rfl rfl rfl (by omega) (by omega) hlo.nil fun ad had => ?_)
          conv => whnf
          repeat (refine XSame.of ?_; conv => whnf)
          refine XVal.of_read (XRead.load tabOk (t := 3) rfl rfl (ad := ad) (k := 0) (L := [intV x]) (v := intV x) (.fact fun w hw => had ▸ hw.2.1) rfl rfl ?_)
          conv => whnf
          repeat (refine XSame.of ?_; conv => whnf)
          refine XCall.look hvb (Loc.row _ _) (fun w hst => Sees.row (by simp) w hst) ?_
          rw [sub_row (by omega)]
          conv => whnf
          repeat (refine XSame.of ?_; conv => whnf)
          refine XVal.clearZ tabOk (t := 23) rfl rfl rfl rfl (z := .int .u8 0) rfl rfl (r1 := []) (r2 := [(bv, Row.c V)]) (b := bd) (k := 128 * x) (C := d.map byteV ++ Z) rfl (by decide) (by simp; omega) ?_
          rw [hlz]
          conv => whnf
          repeat (refine XSame.of ?_; conv => whnf)
          refine XStop.draw tabOk mixed rfl rfl ?_
          conv => whnf
          repeat' (first
            | (refine And.intro ?_ ?_ <;> conv => whnf)
            | (refine XHeld.same rfl ?_; conv => whnf)
            | (refine XHeld.row rfl ?_; conv => whnf)
            | (refine XHeld.call rfl ?_; conv => whnf)
            | (refine XKeep.of ?_; conv => whnf)
            | (refine XSame.of ?_; conv => whnf)
            | (refine XRead.indexArr tabOk (t := 103) rfl rfl rfl n rfl hn rfl ?_; conv => whnf)
            | (refine XHeld.mk ?_ ?_; (focus (first | exact Ent.refl _ | exact Ent.left _ _ | exact Ent.of_le ⟨List.sublist_append_left _ _, fun w h => h⟩ | exact Ent.of_le ⟨List.Sublist.refl _, fun w h => h.1⟩)); conv => whnf))
          refine XUnit.storeIn tabOk (t := 82) rfl (r1 := [(bd, Row.c (d2.map byteV ++ Z))]) (r2 := []) (b := bv) (k := 1 + 14 * n) (C := V) (v := .agg ⟨inoL 2 128 fun i => if i = 0 then x else 0⟩) (by show (Addr.add ⟨bv, 0, none⟩ 1).add (n * 14) = _; simp only [Addr.add_none]; rw [Nat.zero_add, Nat.mul_comm]) rfl (by simp [Value.cells, inoL, intV, oneCell]) (by rw [hvl]; show _ + 14 ≤ _; omega) ?_
          rw [show laid V (1 + 14 * n) (Value.agg ⟨inoL 2 128 fun i => if i = 0 then x else 0⟩).cells.toList = V2 from hvs]
          conv => whnf
          repeat (refine XSame.of ?_; conv => whnf)
          refine XCall.rows (r1 := []) (r2 := []) hdn (fun w hw => hw.2.2) (fun v F hv => ?_)
          obtain ⟨rfl, rfl⟩ := hv
          conv => whnf
          repeat (refine XSame.of ?_; conv => whnf)
          exact relN_row (by omega) hcap
    · have hk2' : kind = 1 := by
        simp [iEq_eq] at hk2
        omega
      subst hk2'
      have hA := allocR_one h0 hf
      have hdl := doneD_len hd (upd (dIno d) n (1, 0, fun i => 0)) hbm
      have hvs := vw_set (.slice (some ⟨bd, 0, none⟩) d.length cap) (dIno d) (kb.v 12) hn (1, 0, fun i => 0)
      have hvl := vwG_len (.slice (some ⟨bd, 0, none⟩) d.length cap) (dIno d) (kb.v 12)
      have hdn := done_spec bd bv cap d Z hd hcap (upd (dIno d) n (1, 0, fun i => 0)) (upd_small ⟨by decide, by decide, fun j => Nat.zero_le _⟩) kb hkb (bmp d) hbm
      rw [hA]
      dsimp only
      generalize doneD d (upd (dIno d) n (1, 0, fun i => 0)) (bmp d) = dd at *
      generalize vwG (.slice (some ⟨bd, 0, none⟩) d.length cap) (upd (dIno d) n (1, 0, fun i => 0)) (kb.v 12) = V2 at *
      generalize vwG (.slice (some ⟨bd, 0, none⟩) d.length cap) (dIno d) (kb.v 12) = V at *
      conv => whnf
      repeat (refine XSame.of ?_; conv => whnf)
      refine XStop.draw tabOk mixed rfl rfl ?_
      conv => whnf
      repeat' (first
        | (refine And.intro ?_ ?_ <;> conv => whnf)
        | (refine XHeld.same rfl ?_; conv => whnf)
        | (refine XHeld.row rfl ?_; conv => whnf)
        | (refine XHeld.call rfl ?_; conv => whnf)
        | (refine XKeep.of ?_; conv => whnf)
        | (refine XSame.of ?_; conv => whnf)
        | (refine XRead.indexArr tabOk (t := 103) rfl rfl rfl n rfl hn rfl ?_; conv => whnf)
        | (refine XHeld.mk ?_ ?_; (focus (first | exact Ent.refl _ | exact Ent.left _ _ | exact Ent.of_le ⟨List.sublist_append_left _ _, fun w h => h⟩ | exact Ent.of_le ⟨List.Sublist.refl _, fun w h => h.1⟩)); conv => whnf))
      refine XUnit.storeIn tabOk (t := 82) rfl (r1 := [(bd, Row.c (d.map byteV ++ Z))]) (r2 := []) (b := bv) (k := 1 + 14 * n) (C := V) (v := .agg ⟨inoL 1 0 fun i => 0⟩) (by show (Addr.add ⟨bv, 0, none⟩ 1).add (n * 14) = _; simp only [Addr.add_none]; rw [Nat.zero_add, Nat.mul_comm]) rfl (by simp [Value.cells, inoL, intV, oneCell]) (by rw [hvl]; show _ + 14 ≤ _; omega) ?_
      rw [show laid V (1 + 14 * n) (Value.agg ⟨inoL 1 0 fun i => 0⟩).cells.toList = V2 from hvs]
      conv => whnf
      repeat (refine XSame.of ?_; conv => whnf)
      refine XCall.rows (r1 := []) (r2 := []) hdn (fun w hw => hw.2) (fun v F hv => ?_)
      obtain ⟨rfl, rfl⟩ := hv
      conv => whnf
      repeat (refine XSame.of ?_; conv => whnf)
      exact relN_row (by omega) hcap

end Go.Proofs.YtfeoedkmndkbjaaGreatDoor
namespace Go.Proofs.YtfeoedkmndkbjaaGreatDoor
open Go Go.Sx
set_option maxRecDepth 100000
set_option maxHeartbeats 4000000
set_option linter.unusedVariables false
set_option linter.unusedSimpArgs false

theorem relDE_row {D : World → Prop} {b cap e : Nat} {d : List UInt8} {Z : List Value} {m : Nat} (hm : m = d.length) (hc : m ≤ cap) : ∃ F', Ent ⟨D, [(b, Row.c (d.map byteV ++ Z))]⟩ F' ∧ RelDE d e (.tuple #[.slice (some ⟨b, 0, none⟩) m cap, .int .i64 (e : Int)]) F' := by
  subst hm
  exact ⟨⟨fun w => By w ⟨some ⟨b, 0, none⟩, cap⟩ d, []⟩, Ent.giveB (r1 := []) (r2 := []), ⟨some ⟨b, 0, none⟩, cap⟩, rfl, ⟨fun h => (by cases h), hc⟩, rfl⟩

theorem getGi_ok {d : List UInt8} {m : Nat} (hm : m < 32) (hk : rk d m ≠ 0) : getGe (dIno d) (m : Int) = 0 ∧ getGi (dIno d) (m : Int) = (rk d m, rs d m, rb d m) := by
  have h0 : getGe (dIno d) (m : Int) = 0 := by
    unfold getGe
    rw [if_neg (by omega), if_neg (by exact hk)]
  refine ⟨h0, ?_⟩
  unfold getGi
  rw [if_pos h0]
  rfl

end Go.Proofs.YtfeoedkmndkbjaaGreatDoor
namespace Go.Proofs.YtfeoedkmndkbjaaGreatDoor
open Go Go.Sx
set_option maxRecDepth 100000
set_option maxHeartbeats 4000000
set_option linter.unusedVariables false
set_option linter.unusedSimpArgs false

theorem vtake0_spec (bv : Nat) (zero : Int) (hz : zero = 0) : PureSpec Tryz.prog 75 [.pointer (some ⟨bv, 0, none⟩), .int .i64 zero] (fun w => True) (fun v F => ∃ r : Bool, r = true ∧ v = .tuple #[.slice none 0 0, .bool r]) := by
  refine PureSpec.of_xc tabOk Tryz.func75 rfl (by decide) (n := Tryz.f75.ntmps - 2) rfl rfl fun w0 av => ?_
  conv => whnf
  repeat (refine XSame.of ?_; conv => whnf)
  refine XIf.yes (by subst hz; simp [iEq_eq]) ?_
  conv => whnf
  repeat (refine XSame.of ?_; conv => whnf)
  exact ⟨_, Ent.refl _, true, rfl, rfl⟩

/-- Bytes are written one by one. -/
def wdP (d : List UInt8) (at' : Nat) (data : List UInt8) : Nat → List UInt8
  | 0 => d
  | k + 1 => bput (wdP d at' data k) (at' + k) (byt data k)

theorem wdP_len (d : List UInt8) (a : Nat) (data : List UInt8) : ∀ k, (wdP d a data k).length = d.length
  | 0 => rfl
  | k + 1 => by unfold wdP; rw [bput_len, wdP_len d a data k]

theorem byt_wdP {d data : List UInt8} {a : Nat} (h : a + data.length ≤ d.length) : ∀ {k : Nat}, k ≤ data.length → ∀ m, byt (wdP d a data k) m = if a ≤ m ∧ m < a + k then byt data (m - a) else byt d m
  | 0, _, m => by
    rw [if_neg (by omega)]
    rfl
  | k + 1, hk, m => by
    unfold wdP
    rw [byt_bput (by rw [wdP_len]; omega) (byt_lt _ _), byt_wdP h (show k ≤ data.length by omega)]
    by_cases h1 : m = a + k
    · subst h1
      rw [if_pos rfl, if_pos (by omega), show a + k - a = k by omega]
    · rw [if_neg h1]
      by_cases h2 : a ≤ m ∧ m < a + k
      · rw [if_pos h2, if_pos (by omega)]
      · rw [if_neg h2, if_neg (by omega)]

theorem wdP_all {d data : List UInt8} {a : Nat} (h : a + data.length ≤ d.length) : wdP d a data data.length = lay d a data := by
  refine byt_ext (by rw [wdP_len, lay_len h]) fun m hm => ?_
  rw [byt_wdP h (Nat.le_refl _), byt_lay h]

/-- Nothing but data has changed. -/
theorem doneD_id {d e : List UInt8} (hok : Ok37 d) (hd : d.length = 12288) (he : e.length = 12288) (hin : ∀ m, 1664 ≤ m → m < 2304 → byt e m = byt d m) {n : Nat} (hn : n < 32) :
    doneD e (upd (dIno d) n (rk d n, rs d n, rb d n)) (bmp d) = e := by
  have hb := bmp_len hd
  rw [doneD_one hok he hb (fun m h1 h2 => hin m (by omega) h2) hn]
  have h1 := putI_len he hn (rk d n) (rs d n) (rb d n)
  refine byt_ext (by rw [setBmp_len h1 hb, he]) fun m hm => ?_
  dsimp only
  rw [byt_setBmp h1 hb, byt_putI he hn]
  by_cases h2 : 1664 ≤ m ∧ m < 1676
  · rw [if_pos h2, hin m (by omega) (by omega)]
    unfold bmp
    rw [byt_cut (by omega) (by omega)]
    congr 1
    omega
  · rw [if_neg h2]
    by_cases h3 : 1792 + 16 * n ≤ m ∧ m < 1792 + 16 * n + 16
    · rw [if_pos h3, hin m (by omega) (by omega)]
      have hf := hok.form n hn
      unfold formB at hf
      rw [Bool.and_eq_true, decide_eq_true_eq] at hf
      rw [byt_dIno hf.1 (by omega)]
      congr 1
      omega
    · rw [if_neg h3]

theorem dir_form {d : List UInt8} (hok : Ok37 d) {n : Nat} (hn : n < 32) (hk : rk d n = 2) : rs d n = 128 ∧ 18 ≤ rb d n 0 ∧ rb d n 0 < 96 := by
  have hf := hok.form n hn
  have hb := form_blocks hf 0 (by decide)
  unfold formB at hf
  rw [Bool.and_eq_true] at hf
  have h2 := hf.2
  split at h2
  · rename_i hz
    have := (inoZ_iff.1 hz).1
    omega
  · rw [decide_eq_true_eq] at h2
    have := h2.2.2.2.2.2
    have h3 : rs d n = 128 ∧ rb d n 0 ≠ 0 := by omega
    have := hb h3.2
    omega

/-- The disk on which 16 bytes of a directory are replaced. -/
def wr16 (d : List UInt8) (n i : Nat) (data : List UInt8) : List UInt8 := lay d (128 * rb d n 0 + 16 * i) data

theorem wr16_len {d : List UInt8} (hd : d.length = 12288) (hok : Ok37 d) {n : Nat} (hn : n < 32) (hk : rk d n = 2) {i : Nat} (hi : i < 8) {data : List UInt8} (hdl : data.length = 16) : (wr16 d n i data).length = 12288 := by
  obtain ⟨h1, h2, h3⟩ := dir_form hok hn hk
  unfold wr16
  rw [lay_len (by omega), hd]

theorem pwrite_spec (d : List UInt8) (h : Hd) (hh : h.Ok d.length) (h0 : chk d = 0) (n : Nat) (hn : n < 32) (hk2 : rk d n = 2) (i : Nat) (hi : i < 8) (data : List UInt8) (kd : Hd) (hkd : kd.Ok data.length) (hdl : data.length = 16) (off : Int) (ho : off = ((16 * i : Nat) : Int)) :
    PureSpec Tryz.prog 34 [h.v d.length, .int .i64 (n : Int), .int .i64 off, kd.v data.length] (fun w => By w h d ∧ By w kd data) (RelDE (wr16 d n i data) 0) := by
  obtain ⟨hd, hok⟩ := chk_zero h0
  obtain ⟨hs, hb1, hb2⟩ := dir_form hok hn hk2
  refine PureSpec.of_xc tabOk Tryz.func34 rfl (by decide) (n := Tryz.f34.ntmps - 4) rfl rfl fun w0 av => ?_
  conv => whnf
  refine XCall.pure (with_spec d h hh (by omega) n) (fun w hw => hw.1) (fun v D hv => ?_)
  unfold RelW at hv
  rw [if_pos h0] at hv
  obtain ⟨bd, bv, cap, Z, kb, rfl, hcap, hkb, rfl⟩ := hv
  obtain ⟨e1, e2⟩ := getGi_ok hn (show rk d n ≠ 0 by omega)
  obtain ⟨e0, he0⟩ : ∃ e : Nat, e = getGe (dIno d) (n : Int) := ⟨_, rfl⟩
  rw [← he0, e2]
  rw [e1] at he0
  have hbm := bmp_len hd
  have hwl := wr16_len hd hok hn hk2 hi hdl
  have hdid := doneD_id (e := wr16 d n i data) hok hd hwl (fun m h1 h2 => by
    unfold wr16
    rw [byt_lay (by omega), if_neg (by omega)]) hn
  have hdn := done_spec bd bv cap (wr16 d n i data) Z hwl (by omega) (upd (dIno d) n (rk d n, rs d n, rb d n)) (upd_small ⟨by have := rk_lt d n; dsimp only; omega, by dsimp only; omega, fun j => by have := rb_lt d n j; dsimp only; omega⟩) kb hkb (bmp d) hbm
  have hwd : (wr16 d n i data).length = d.length := hwl.trans hd.symm
  rw [hdid, hwd] at hdn
  have hvs := vw_set (.slice (some ⟨bd, 0, none⟩) d.length cap) (dIno d) (kb.v 12) hn (rk d n, rs d n, rb d n)
  have hvl := vwG_len (.slice (some ⟨bd, 0, none⟩) d.length cap) (dIno d) (kb.v 12)
  have hv00 : (vwG (.slice (some ⟨bd, 0, none⟩) d.length cap) (dIno d) (kb.v 12))[0]? = some (.slice (some ⟨bd, 0, none⟩) d.length cap) := rfl
  have hok0 : (⟨some ⟨bd, 0, none⟩, cap⟩ : Hd).Ok d.length := ⟨fun h => (by cases h), hcap⟩
  have hvb := vblock_spec bv _ ⟨some ⟨bd, 0, none⟩, cap⟩ d.length hv00 hok0 hd (rb d n 0) hb2
  have hwall : wdP d (128 * rb d n 0 + 16 * i) data data.length = wr16 d n i data := wdP_all (by omega)
  have hwpl := wdP_len d (128 * rb d n 0 + 16 * i) data
  have hwp0 : wdP d (128 * rb d n 0 + 16 * i) data 0 = d := rfl
  have hwpn : ∀ k, wdP d (128 * rb d n 0 + 16 * i) data (k + 1) = bput (wdP d (128 * rb d n 0 + 16 * i) data k) (128 * rb d n 0 + 16 * i + k) (byt data k) := fun k => rfl
  generalize wr16 d n i data = dd at *
  generalize wdP d (128 * rb d n 0 + 16 * i) data = pw at *
  generalize vwG (.slice (some ⟨bd, 0, none⟩) d.length cap) (upd (dIno d) n (rk d n, rs d n, rb d n)) (kb.v 12) = V2 at *
  generalize vwG (.slice (some ⟨bd, 0, none⟩) d.length cap) (dIno d) (kb.v 12) = V at *
  generalize rk d n = k at *
  generalize rs d n = s at *
  generalize rb d n = b at *
  conv => whnf
  repeat (refine XSame.of ?_; conv => whnf)
  intro b11
  conv => whnf
  repeat (refine XSame.of ?_; conv => whnf)
  refine XIf.no (by subst he0; simp [iNe_eq]) ?_
  conv => whnf
  repeat (refine XSame.of ?_; conv => whnf)
  refine XIf.yes (by subst hk2; simp [iEq_eq]) ?_
  conv => whnf
  repeat (refine XSame.of ?_; conv => whnf)
  refine XIf.no (by subst ho; rw [iLt_eq, decide_eq_false_iff_not]; omega) ?_
  conv => whnf
  repeat (refine XSame.of ?_; conv => whnf)
  refine XIf.no (by simp only [iEq_eq, beq_eq_false_iff_ne, ne_eq]; omega) ?_
  conv => whnf
  repeat (refine XSame.of ?_; conv => whnf)
  generalize hr : (iGt _ _ || _) = r
  cases r
  rotate_left
  · exfalso
    simp only [iGt_eq, Bool.or_eq_true, decide_eq_true_eq] at hr
    rw [wrap_i64 (by omega)] at hr
    omega
  conv => whnf
  repeat (refine XSame.of ?_; conv => whnf)
  have hq0 : IntKind.i64.wrap (Int.tdiv off (Int.ofNat 128)) = ((16 * i / 128 : Nat) : Int) := by subst ho; exact wdiv (16 * i) 128 (by omega)
  rw [hq0]
  refine XStop.loop tabOk (ι := Nat) ([14, 15] ++ List.range' 61 18) (fun x => x ≤ 1)
    (fun x => [(14, .v (.slice none 0 0)), (15, .v (.int .i64 (x : Int)))]) (fun _ => [inoL k s b]) (fun x => ⟨fun w => By w kb (bmp d) ∧ By w kd data, [(bd, Row.c (d.map byteV ++ Z)), (bv, Row.c V)]⟩)
    (fun x => 1 - x) (16 * i / 128) (by omega) ?_ rfl (Ent.of_le ⟨by simp [Fx.and], fun w hw => ⟨hw.2, hw.1.2⟩⟩) fun x hx => ?_
  · conv => whnf
    repeat (first | exact FLe.nil | refine FLe.any ?_ | refine FLe.cons ?_)
  have hps := parts_spec (16 * i + data.length) (by omega)
  have hsum : IntKind.i64.wrap (off + (data.length : Int)) = ((16 * i + data.length : Nat) : Int) := by
    rw [wrap_i64 (by omega)]
    omega
  have hp1 : (16 * i + data.length + 127) / 128 = 1 := by omega
  conv => whnf
  repeat (refine XSame.of ?_; conv => whnf)
  rw [hsum]
  refine XCall.val hps (fun w hw => trivial) (fun v D hv => ?_)
  rw [hp1] at hv
  subst hv
  conv => whnf
  repeat (refine XSame.of ?_; conv => whnf)
  refine XIf.split (fun hlt => ?_) (fun hlt => ?_)
  · have hx0 : x < 1 := by
      simp only [iLt_eq, decide_eq_true_eq] at hlt
      omega
    have hx1 : x = 0 := by omega
    have hx12 : x < 12 := by omega
    have hbx : b x ≠ 0 := by
      subst hx1
      omega
    conv => whnf
    repeat (refine XSame.of ?_; conv => whnf)
    rw [blt_yes hx12]
    conv => whnf
    repeat (refine XSame.of ?_; conv => whnf)
    refine nthK_mk (x := intV (b x)) (by dsimp only; rw [Nat.mul_one, Nat.zero_add]; exact ino_get hx12) ?_
    conv => whnf
    repeat (refine XSame.of ?_; conv => whnf)
    refine XIf.no (by simp [iEq_eq]; omega) ?_
    conv => whnf
    repeat (refine XSame.of ?_; conv => whnf)
    refine ⟨x + 1, ⟨hx0, by dsimp only; omega⟩, ?_, ?_, Ent.refl _⟩
    · conv => whnf
      refine ⟨?_, rfl⟩
      repeat (first | exact FLe.nil | refine FLe.any ?_ | refine FLe.cons ?_ | refine FLe.eq (by rw [wrap_i64 (by omega)]; rfl) ?_)
    · conv => whnf
      exact ⟨⟨rfl, rfl⟩, trivial⟩
  conv => whnf
  repeat (refine XSame.of ?_; conv => whnf)
  refine XCall.val (vtake0_spec bv 0 rfl) (fun w hw => trivial) (fun v D hv => ?_)
  obtain ⟨r, hr1, rfl⟩ := hv
  conv => whnf
  repeat (refine XSame.of ?_; conv => whnf)
  refine XIf.no (by subst hr1; rfl) ?_
  conv => whnf
  repeat (refine XSame.of ?_; conv => whnf)
  refine XStop.loop tabOk (ι := Nat) ([18, 19] ++ List.range' 90 19) (fun x => x = 0)
    (fun x => [(90, .v (.int .i64 (x : Int)))]) (fun _ => [inoL k s b]) (fun x => ⟨fun w => By w kb (bmp d) ∧ By w kd data, [(bd, Row.c (d.map byteV ++ Z)), (bv, Row.c V)]⟩)
    (fun x => x) 0 rfl ?_ rfl (Ent.refl _) fun y hy => ?_
  · conv => whnf
    repeat (first | exact FLe.nil | refine FLe.any ?_ | refine FLe.cons ?_)
  conv => whnf
  repeat (refine XSame.of ?_; conv => whnf)
  refine XIf.no (by subst hy; simp [iLt_eq]) ?_
  conv => whnf
  repeat (refine XSame.of ?_; conv => whnf)
  refine XStop.loop tabOk (ι := Nat) ([20, 21, 22] ++ List.range' 111 20) (fun x => x ≤ data.length)
    (fun x => [(111, .v (.int .i64 (x : Int)))]) (fun _ => [inoL k s b]) (fun x => ⟨fun w => By w kb (bmp d) ∧ By w kd data, [(bd, Row.c ((pw x).map byteV ++ Z)), (bv, Row.c V)]⟩)
    (fun x => data.length - x) 0 (Nat.zero_le _) ?_ rfl (Ent.of_le ⟨by rw [hwp0]; exact List.Sublist.refl _, fun w hw => hw⟩) fun q hq => ?_
  · conv => whnf
    repeat (first | exact FLe.nil | refine FLe.any ?_ | refine FLe.cons ?_)
  have hwq := hwpl q
  have hwn := hwpn q
  conv => whnf
  repeat (refine XSame.of ?_; conv => whnf)
  refine XIf.split (fun hlt3 => ?_) (fun hlt3 => ?_)
  · have hq' : q < data.length := by
      simp only [iLt_eq, decide_eq_true_eq] at hlt3
      omega
    have f1 : IntKind.i64.wrap (off + (q : Int)) = ((16 * i + q : Nat) : Int) := by
      rw [wrap_i64 (by omega)]
      omega
    have f2 : IntKind.i64.wrap (Int.tdiv ((16 * i + q : Nat) : Int) (Int.ofNat 128)) = ((0 : Nat) : Int) := by
      have := wdiv (16 * i + q) 128 (by omega)
      rw [show (16 * i + q) / 128 = 0 by omega] at this
      exact this
    have f3 : Int.tmod ((16 * i + q : Nat) : Int) (Int.ofNat 128) = ((16 * i + q : Nat) : Int) := by
      have := tmod_nat (16 * i + q) 128
      rw [show (16 * i + q) % 128 = 16 * i + q by omega] at this
      exact this
    conv => whnf
    repeat (refine XSame.of ?_; conv => whnf)
    refine XVal.of_read (XRead.byteAt tabOk (t := 23) rfl rfl rfl rfl q rfl hq' hkd fun ad had => ?_)
    conv => whnf
    repeat (refine XSame.of ?_; conv => whnf)
    refine XVal.of_read (XRead.byteLd' tabOk (t := 5) rfl rfl had (.fact fun w h => h.2) rfl hq' ?_)
    conv => whnf
    repeat (refine XSame.of ?_; conv => whnf)
    rw [f1, f2]
    conv => whnf
    repeat (refine XSame.of ?_; conv => whnf)
    refine XCall.look hvb (Loc.row _ _) (fun w hst => Sees.row (by simp) w hst) ?_
    rw [sub_row (by omega)]
    conv => whnf
    repeat (refine XSame.of ?_; conv => whnf)
    refine XVal.of_read (XRead.rowIxAt tabOk (t := 23) rfl rfl rfl rfl (16 * i + q) f3 (by omega) ?_)
    conv => whnf
    repeat (refine XSame.of ?_; conv => whnf)
    refine XUnit.storeByte tabOk (t := 5) rfl rfl (r1 := []) (r2 := [(bv, Row.c V)]) (k := 128 * b 0 + (16 * i + q)) (l := pw q) (Z := Z) (byt data q) rfl rfl (byt_lt _ _) (by omega) ?_
    rw [show 128 * b 0 + (16 * i + q) = 128 * b 0 + 16 * i + q by omega, ← hwn]
    conv => whnf
    repeat (refine XSame.of ?_; conv => whnf)
    refine ⟨q + 1, ⟨hq', by dsimp only; omega⟩, ?_, ?_, Ent.refl _⟩
    · conv => whnf
      refine ⟨?_, rfl⟩
      repeat (first | exact FLe.nil | refine FLe.any ?_ | refine FLe.cons ?_ | refine FLe.eq (by rw [wrap_i64 (by omega)]; rfl) ?_)
    · conv => whnf
      exact ⟨⟨rfl, rfl⟩, trivial⟩
  have hqe : q = data.length := by
    simp only [iLt_eq, decide_eq_false_iff_not] at hlt3
    omega
  subst hqe
  rw [hwall]
  conv => whnf
  repeat (refine XSame.of ?_; conv => whnf)
  rw [hsum]
  refine XVal.of_read (XRead.max ?_)
  rw [show max s (16 * i + data.length) = s by omega]
  conv => whnf
  repeat (refine XSame.of ?_; conv => whnf)
  refine XStop.draw tabOk mixed rfl rfl ?_
  conv => whnf
  repeat' (first
    | (refine And.intro ?_ ?_ <;> conv => whnf)
    | (refine XHeld.same rfl ?_; conv => whnf)
    | (refine XHeld.row rfl ?_; conv => whnf)
    | (refine XHeld.call rfl ?_; conv => whnf)
    | (refine XKeep.of ?_; conv => whnf)
    | (refine XSame.of ?_; conv => whnf)
    | (refine XRead.indexArr tabOk (t := 103) rfl rfl rfl n rfl hn rfl ?_; conv => whnf)
    | (refine XHeld.mk ?_ ?_; (focus (first | exact Ent.refl _ | exact Ent.left _ _ | exact Ent.of_le ⟨List.sublist_append_left _ _, fun w h => h⟩ | exact Ent.of_le ⟨List.Sublist.refl _, fun w h => h.1⟩)); conv => whnf))
  refine XUnit.storeIn tabOk (t := 82) rfl (r1 := [(bd, Row.c (dd.map byteV ++ Z))]) (r2 := []) (b := bv) (k := 1 + 14 * n) (C := V) (v := .agg ⟨inoL k s b⟩) (by show (Addr.add ⟨bv, 0, none⟩ 1).add (n * 14) = _; simp only [Addr.add_none]; rw [Nat.zero_add, Nat.mul_comm]) rfl (by simp [Value.cells, inoL, intV, oneCell]) (by rw [hvl]; show _ + 14 ≤ _; omega) ?_
  rw [show laid V (1 + 14 * n) (Value.agg ⟨inoL k s b⟩).cells.toList = V2 from hvs]
  conv => whnf
  repeat (refine XSame.of ?_; conv => whnf)
  refine XCall.rows (r1 := []) (r2 := []) hdn (fun w hw => hw.1) (fun v F hv => ?_)
  obtain ⟨rfl, rfl⟩ := hv
  conv => whnf
  repeat (refine XSame.of ?_; conv => whnf)
  exact relDE_row (by omega) hcap

end Go.Proofs.YtfeoedkmndkbjaaGreatDoor
namespace Go.Proofs.YtfeoedkmndkbjaaGreatDoor
open Go Go.Sx
set_option maxRecDepth 100000
set_option maxHeartbeats 4000000
set_option linter.unusedVariables false
set_option linter.unusedSimpArgs false

/-- How many bytes are left without zeros at the end. -/
def tlen (l : List UInt8) : Nat → Nat
  | 0 => 0
  | n + 1 => if byt l n = 0 then tlen l n else n + 1

theorem tlen_le (l : List UInt8) : ∀ n, tlen l n ≤ n
  | 0 => Nat.le_refl _
  | n + 1 => by
    unfold tlen
    split
    · have := tlen_le l n
      omega
    · omega

theorem tlen_zero (l : List UInt8) : ∀ n j, tlen l n ≤ j → j < n → byt l j = 0
  | 0, j, _, h => by omega
  | n + 1, j, h, hj => by
    unfold tlen at h
    split at h
    · rename_i h0
      by_cases hjn : j = n
      · subst hjn; exact h0
      · exact tlen_zero l n j h (by omega)
    · omega

theorem tlen_last (l : List UInt8) : ∀ n, 0 < tlen l n → byt l (tlen l n - 1) ≠ 0
  | 0, h => by
    unfold tlen at h
    omega
  | n + 1, h => by
    unfold tlen at h ⊢
    split at h
    · rename_i h0
      rw [if_pos h0]
      exact tlen_last l n h
    · rename_i h0
      rw [if_neg h0]
      simpa using h0

theorem trimByte_spec (l : List UInt8) (h : Hd) (n : Nat) (hh : h.Ok n) (hn : n ≤ l.length) (hl : n ≤ 1000000) (z : Int) (hz : z = 0) :
    PureSpec Tryz.prog 154 [h.v n, .int .u8 z] (fun w => By w h l) (fun v F => v = h.v (tlen l n)) := by
  refine PureSpec.of_xc tabOk Tryz.func154 rfl (by decide) (n := Tryz.f154.ntmps - 2) rfl rfl fun w0 av => ?_
  conv => whnf
  refine XStop.loop tabOk (ι := Nat) ([0] ++ List.range' 5 18) (fun x => x ≤ n ∧ tlen l x = tlen l n)
    (fun x => [(0, .v (h.v x))]) (fun _ => []) (fun _ => ⟨fun w => By w h l, []⟩)
    (fun x => x) n ⟨Nat.le_refl _, rfl⟩ ?_ rfl (Ent.refl _) fun x hx => ?_
  · conv => whnf
    repeat (first | exact FLe.nil | refine FLe.any ?_ | refine FLe.cons ?_)
  obtain ⟨hx, ht⟩ := hx
  have hhx : h.Ok x := ⟨fun ha => by have := hh.nil ha; omega, by have := hh.cap; omega⟩
  conv => whnf
  repeat (refine XSame.of ?_; conv => whnf)
  refine XIf.split (fun h0 => ?_) (fun h0 => ?_)
  · have h0' : 0 < x := by
      simp only [iGt_eq, decide_eq_true_eq] at h0
      omega
    have e1 : IntKind.i64.wrap ((x : Int) - 1) = ((x - 1 : Nat) : Int) := by
      rw [wrap_i64 (by omega)]
      omega
    conv => whnf
    repeat (refine XSame.of ?_; conv => whnf)
    refine XVal.of_read (XRead.byteAt tabOk (t := 23) rfl rfl rfl rfl (x - 1) e1 (by omega) hhx fun ad had => ?_)
    conv => whnf
    repeat (refine XSame.of ?_; conv => whnf)
    refine XVal.of_read (XRead.byteLd' tabOk (t := 5) rfl rfl had (.fact fun w h => h) rfl (by omega) ?_)
    conv => whnf
    repeat (refine XSame.of ?_; conv => whnf)
    refine XIf.split (fun hb => ?_) (fun hb => ?_)
    · have hb' : byt l (x - 1) = 0 := by
        subst hz
        simp [iEq_eq] at hb
        omega
      conv => whnf
      repeat (refine XSame.of ?_; conv => whnf)
      refine XVal.of_read (XRead.subTo tabOk (t := 23) rfl rfl rfl (x - 1) e1 (by have := hhx.cap; omega) ?_)
      conv => whnf
      repeat (refine XSame.of ?_; conv => whnf)
      refine ⟨x - 1, ⟨⟨by omega, ?_⟩, by dsimp only; omega⟩, ?_, ?_, Ent.refl _⟩
      · rw [← ht]
        obtain ⟨y, rfl⟩ : ∃ y, x = y + 1 := ⟨x - 1, by omega⟩
        show tlen l (y + 1 - 1) = _
        rw [Nat.add_sub_cancel] at hb'
        rw [show tlen l (y + 1) = if byt l y = 0 then tlen l y else y + 1 from rfl, if_pos hb']
        rfl
      · conv => whnf
        refine ⟨?_, rfl⟩
        repeat (first | exact FLe.nil | refine FLe.any ?_ | refine FLe.cons ?_ | refine FLe.eq (by rw [wrap_i64 (by omega)]; rfl) ?_)
      · conv => whnf
        exact trivial
    · have hb' : byt l (x - 1) ≠ 0 := by
        subst hz
        simp [iEq_eq] at hb
        omega
      conv => whnf
      repeat (refine XSame.of ?_; conv => whnf)
      refine ⟨_, Ent.refl _, ?_⟩
      have : tlen l n = x := by
        rw [← ht]
        obtain ⟨y, rfl⟩ : ∃ y, x = y + 1 := ⟨x - 1, by omega⟩
        rw [Nat.add_sub_cancel] at hb'
        rw [show tlen l (y + 1) = if byt l y = 0 then tlen l y else y + 1 from rfl, if_neg hb']
      rw [this]
  · have h0' : x = 0 := by
      simp only [iGt_eq, decide_eq_false_iff_not] at h0
      omega
    conv => whnf
    repeat (refine XSame.of ?_; conv => whnf)
    refine ⟨_, Ent.refl _, ?_⟩
    subst h0'
    rw [← ht]
    rfl

theorem trimRight_spec (l : List UInt8) (h : Hd) (n : Nat) (hh : h.Ok n) (hn : n ≤ l.length) (hl : n ≤ 1000000) (h0 : 0 < n) (cs : List UInt8) (hcs : cs = [0]) :
    PureSpec Tryz.prog 130 [h.v n, strV cs] (fun w => By w h l) (fun v F => v = h.v (tlen l n)) := by
  refine PureSpec.of_xc tabOk Tryz.func130 rfl (by decide) (n := Tryz.f130.ntmps - 2) rfl rfl fun w0 av => ?_
  have hc1 : cs.length = 1 := by rw [hcs]; rfl
  have hc0 : byteV (cs[0]'(by omega)) = .int .u8 0 := by subst hcs; rfl
  have hne : (cs == []) = false := by subst hcs; rfl
  conv => whnf
  repeat (refine XSame.of ?_; conv => whnf)
  refine XIf.no (by simp only [iEq_eq, beq_eq_false_iff_ne, ne_eq]; omega) ?_
  conv => whnf
  repeat (refine XSame.of ?_; conv => whnf)
  refine XVal.of_read (XRead.strEq (l := cs) (m := []) ?_)
  rw [hne]
  conv => whnf
  repeat (refine XSame.of ?_; conv => whnf)
  refine XIf.yes (by simp only [iEq_eq, beq_iff_eq]; exact congrArg Int.ofNat hc1) ?_
  conv => whnf
  repeat (refine XSame.of ?_; conv => whnf)
  refine XVal.of_read (XRead.strIndex tabOk (t := 9) rfl rfl (l := cs) 0 rfl (by omega) ?_)
  obtain ⟨z, hz⟩ : ∃ z : Int, z = 0 := ⟨_, rfl⟩
  rw [hc0, ← hz]
  conv => whnf
  repeat (refine XSame.of ?_; conv => whnf)
  refine XIf.yes (by subst hz; simp [iLt_eq]) ?_
  conv => whnf
  repeat (refine XSame.of ?_; conv => whnf)
  refine XVal.of_read (XRead.strIndex tabOk (t := 9) rfl rfl (l := cs) 0 hz (by omega) ?_)
  rw [hc0, ← hz]
  conv => whnf
  repeat (refine XSame.of ?_; conv => whnf)
  refine XCall.val (trimByte_spec l h n hh hn hl z hz) (fun w hw => hw) (fun v D hv => ?_)
  subst hv
  conv => whnf
  repeat (refine XSame.of ?_; conv => whnf)
  exact ⟨_, Ent.refl _, rfl⟩

theorem enCs_struct {l : List En} {i : Nat} (h : i < l.length) : ((enCs l).drop (2 * i)).take 2 = enC l[i] := by
  obtain ⟨h1, h2⟩ := enCs_get h
  have hl := enCs_len l
  apply List.ext_getElem?
  intro j
  rw [List.getElem?_take]
  match j with
  | 0 => rw [if_pos (by decide), List.getElem?_drop, Nat.add_zero, h1]; rfl
  | 1 => rw [if_pos (by decide), List.getElem?_drop, h2]; rfl
  | j + 2 => rw [if_neg (by omega)]; rfl

section
variable (f : FuncId) (Pre : World → Prop) (p : En → Bool)

theorem indexEn_spec (u : Value) (l : List En) (h : Hd) (hh : h.Ok l.length) (hl : l.length ≤ 1000000) (hf : ∀ e ∈ l, PureSpec Tryz.prog f [.agg ⟨enC e⟩, u] Pre (fun v F => v = .bool (p e))) :
    PureSpec Tryz.prog 69 [h.v l.length, .func (.func f) #[] #[u]] (fun w => RowAt w h.a (enCs l) ∧ Pre w) (fun v F => v = .int .i64 (fint (l.findIdx? p))) := by
  refine PureSpec.of_xc tabOk Tryz.func69 rfl (by decide) (n := Tryz.f69.ntmps - 2) rfl rfl fun w0 av => ?_
  conv => whnf
  refine XStop.loop tabOk (ι := Nat) ([5] ++ List.range' 8 11) (fun x => x ≤ l.length ∧ ∀ j (hj : j < l.length), j < x → p l[j] = false)
    (fun x => [(8, .v (.int .i64 (x : Int)))]) (fun _ => []) (fun _ => ⟨fun w => RowAt w h.a (enCs l) ∧ Pre w, []⟩)
    (fun x => l.length - x) 0 ⟨Nat.zero_le _, fun j hj h => by omega⟩ ?_ rfl (Ent.refl _) fun i hi => ?_
  · conv => whnf
    repeat (first | exact FLe.nil | refine FLe.any ?_ | refine FLe.cons ?_)
  obtain ⟨hi, hall⟩ := hi
  conv => whnf
  refine XIf.split (fun hlt => ?_) (fun hlt => ?_)
  · have hlt' : i < l.length := by
      simp only [iLt_eq, decide_eq_true_eq] at hlt
      omega
    conv => whnf
    repeat (refine XSame.of ?_; conv => whnf)
    refine XVal.of_read (XRead.index tabOk (t := 111) rfl rfl rfl (by omega) (by omega) hh.nil fun ad had => ?_)
    conv => whnf
    repeat (refine XSame.of ?_; conv => whnf)
    refine XVal.of_read (XRead.loads tabOk (t := 113) rfl rfl (ad := ad) (k := 2 * i) (L := enCs l) (m := enC l[i]) (.fact fun w hw => had ▸ hw.1) (by congr 1; show Int.toNat (i : Int) * 2 = _; rw [Int.toNat_natCast]; omega) (enCs_struct hlt') rfl ?_)
    conv => whnf
    repeat (refine XSame.of ?_; conv => whnf)
    refine XCall.val (hf _ (List.getElem_mem hlt')) (fun w hw => hw.2) (fun v D hv => ?_)
    generalize hq : p l[i] = q at hv
    subst hv
    cases q
    · conv => whnf
      repeat (refine XSame.of ?_; conv => whnf)
      refine ⟨i + 1, ⟨⟨hlt', fun j hj h => ?_⟩, by dsimp only; omega⟩, ?_, ?_, Ent.refl _⟩
      · rcases Nat.lt_or_eq_of_le (Nat.lt_succ_iff.1 h) with h5 | h5
        · exact hall j hj h5
        · subst h5
          exact hq
      · conv => whnf
        refine ⟨?_, rfl⟩
        repeat (first | exact FLe.nil | refine FLe.any ?_ | refine FLe.cons ?_ | refine FLe.eq (by rw [wrap_i64 (by omega)]; rfl) ?_)
      · conv => whnf
        exact trivial
    · conv => whnf
      repeat (refine XSame.of ?_; conv => whnf)
      refine ⟨_, Ent.refl _, ?_⟩
      have : l.findIdx? p = some i := by
        rw [List.findIdx?_eq_some_iff_getElem]
        exact ⟨hlt', hq, fun j hj => by simpa using hall j (by omega) hj⟩
      rw [this]
      rfl
  · have hie : i = l.length := by
      simp only [iLt_eq, decide_eq_false_iff_not] at hlt
      omega
    subst hie
    conv => whnf
    repeat (refine XSame.of ?_; conv => whnf)
    refine ⟨_, Ent.refl _, ?_⟩
    have : l.findIdx? p = none := by
      rw [List.findIdx?_eq_none_iff]
      intro x hx
      obtain ⟨j, hj, rfl⟩ := List.getElem_of_mem hx
      simpa using hall j hj hj
    rw [this]
    rfl
end

end Go.Proofs.YtfeoedkmndkbjaaGreatDoor
namespace Go.Proofs.YtfeoedkmndkbjaaGreatDoor
open Go Go.Sx
set_option maxRecDepth 100000
set_option maxHeartbeats 4000000
set_option linter.unusedVariables false
set_option linter.unusedSimpArgs false

/-- What the program's entries asks of an entry. -/
structure PnOk (c : List UInt8) (i : Nat) : Prop where
  tail : ∀ k, k < 14 → nlen c (16 * i) 14 ≤ k → byt c (16 * i + k) = 0
  pad : byt c (16 * i + 15) = 0
  name : enR c i = ([], 0) ∨ vname (enR c i).1 = true
  only : (enR c i).1 = [] ∨ ∀ k, k < i → (enR c k).1 ≠ (enR c i).1

theorem enOk_iff (c : List UInt8) (i : Nat) : EnOk c i ↔ PnOk c i ∧ ((enR c i).1 = [] ∨ (enR c i).2 ≠ 0) := by
  constructor
  · intro h
    rcases h.name with h5 | h5
    · exact ⟨⟨h.tail, h.pad, .inl h5, h.only⟩, .inl (by rw [h5])⟩
    · exact ⟨⟨h.tail, h.pad, .inr h5.1, h.only⟩, .inr h5.2⟩
  · rintro ⟨h, h2⟩
    refine ⟨h.tail, h.pad, ?_, h.only⟩
    rcases h.name with h5 | h5
    · exact .inl h5
    · refine .inr ⟨h5, h2.resolve_left fun h6 => ?_⟩
      rw [h6] at h5
      cases h5

def PAll (c : List UInt8) : Prop := ∀ i, i < 8 → PnOk c i
noncomputable instance (c : List UInt8) : Decidable (PAll c) := Classical.propDecidable _
noncomputable def pentsOk (c : List UInt8) : Bool := decide (PAll c)
noncomputable def pentsR (c : List UInt8) : List En := if pentsOk c then ens c 8 else []

theorem vname_nz {s : List UInt8} (h : vname s = true) : ∀ j, j < s.length → byt s j ≠ 0 := by
  intro j hj h0
  unfold vname at h
  rw [Bool.and_eq_true, List.all_eq_true] at h
  have h1 := h.1 s[j] (List.getElem_mem hj)
  rw [byt_get hj] at h0
  have := okc_iff.1 h1
  omega

section
variable {c : List UInt8} (hc : c.length = 128) {i : Nat} (hi : i < 8)
include hc hi

theorem nm_len {t : Nat} (ht : t ≤ 14) : (cut c (16 * i) t).length = t := cut_len (by omega)

theorem tl_zero {t : Nat} (ht : t = tlen (cut c (16 * i) 16) 14) : ∀ k, k < 14 → t ≤ k → byt c (16 * i + k) = 0 := by
  intro k hk htk
  have := tlen_zero (cut c (16 * i) 16) 14 k (by omega) hk
  rwa [byt_cut (by omega) (by omega)] at this

theorem tl_name {t : Nat} (ht : t = tlen (cut c (16 * i) 16) 14) (h : cut c (16 * i) t = [] ∨ vname (cut c (16 * i) t) = true) :
    nlen c (16 * i) 14 = t ∧ enR c i = (cut c (16 * i) t, byt c (16 * i + 14)) ∧ ∀ k, k < 14 → nlen c (16 * i) 14 ≤ k → byt c (16 * i + k) = 0 := by
  have ht14 : t ≤ 14 := ht ▸ tlen_le _ 14
  have hz := tl_zero hc hi ht
  have hl := nm_len hc hi ht14
  have hn : nlen c (16 * i) 14 = t := by
    refine nlen_eq c 14 (16 * i) t ht14 (fun j hj => ?_) ?_
    · rcases h with h | h
      · rw [h] at hl
        simp at hl
        omega
      · have := vname_nz h j (by omega)
        rwa [byt_cut (by omega) (by omega)] at this
    · by_cases h14 : t = 14
      · exact .inl h14
      · exact .inr (hz t (by omega) (Nat.le_refl _))
  refine ⟨hn, ?_, by rw [hn]; exact hz⟩
  unfold enR
  rw [hn]

theorem tl_of {t : Nat} (ht : t = tlen (cut c (16 * i) 16) 14) (h : PnOk c i) : enR c i = (cut c (16 * i) t, byt c (16 * i + 14)) := by
  have ht14 : t ≤ 14 := ht ▸ tlen_le _ 14
  have hz := tl_zero hc hi ht
  have hn14 := nlen_le c 14 (16 * i)
  have hle : t ≤ nlen c (16 * i) 14 := by
    refine Nat.le_of_not_lt fun hlt => ?_
    have h1 := tlen_last (cut c (16 * i) 16) 14 (by omega)
    rw [← ht, byt_cut (by omega) (by omega)] at h1
    exact h1 (h.tail (t - 1) (by omega) (by omega))
  have hge : nlen c (16 * i) 14 ≤ t := by
    refine Nat.le_of_not_lt fun hlt => ?_
    have h2 : ∀ (m o j : Nat), j < nlen c o m → byt c (o + j) ≠ 0 := by
      intro m
      induction m with
      | zero => intro o j hj; unfold nlen at hj; omega
      | succ m ih =>
        intro o j hj
        unfold nlen at hj
        split at hj
        · omega
        · rename_i h0
          cases j with
          | zero => exact h0
          | succ j =>
            have := ih (o + 1) j (by omega)
            rwa [show o + (j + 1) = o + 1 + j by omega]
    exact h2 14 (16 * i) t hlt (hz t (by omega) (Nat.le_refl _))
  unfold enR
  rw [show nlen c (16 * i) 14 = t by omega]
end

theorem pents_no {c : List UInt8} {D : World → Prop} {rs : List (Nat × Row)} {i : Nat} (hi : i < 8) (h : ¬ PnOk c i) : ∃ F', Ent ⟨D, rs⟩ F' ∧ RelEnO (pentsR c) (pentsOk c) (.tuple #[.slice none 0 0, .bool false]) F' := by
  have h1 : pentsOk c = false := by
    unfold pentsOk
    exact decide_eq_false fun h2 => h (h2 i hi)
  have h2 : pentsR c = [] := by
    unfold pentsR
    rw [h1]
    rfl
  rw [h1, h2]
  exact ⟨⟨fun _ => True, []⟩, Ent.bare fun w _ => trivial, none, 0, [], rfl, Own.nil 2, rfl⟩

theorem sameName_spec (e : En) (b : Nat) (s : List UInt8) : PureSpec Tryz.prog 131 [.agg ⟨enC e⟩, .pointer (some ⟨b, 0, none⟩)] (fun w => RowAt w (some ⟨b, 0, none⟩) [strV s]) (fun v F => v = .bool (e.1 == s)) := by
  refine PureSpec.of_xc tabOk Tryz.func131 rfl (by decide) (n := Tryz.f131.ntmps - 2) rfl rfl fun w0 av => ?_
  conv => whnf
  intro b1
  conv => whnf
  repeat (refine XSame.of ?_; conv => whnf)
  refine XVal.of_read (XRead.loadF tabOk (t := 9) rfl rfl (ad := ⟨b, 0, none⟩) (k := 0) (L := [strV s]) (v := strV s) (.fact fun w hw => hw) (fun _ => rfl) rfl ?_)
  conv => whnf
  repeat (refine XSame.of ?_; conv => whnf)
  refine XVal.of_read (XRead.strEq (l := e.1) (m := s) ?_)
  conv => whnf
  repeat (refine XSame.of ?_; conv => whnf)
  exact ⟨_, Ent.refl _, rfl⟩

theorem containsEn_spec (f : FuncId) (Pre : World → Prop) (p : En → Bool) (u : Value) (l : List En) (h : Hd) (hh : h.Ok l.length) (hl : l.length ≤ 1000000) (hf : ∀ e ∈ l, PureSpec Tryz.prog f [.agg ⟨enC e⟩, u] Pre (fun v F => v = .bool (p e))) :
    PureSpec Tryz.prog 92 [h.v l.length, .func (.func f) #[] #[u]] (fun w => RowAt w h.a (enCs l) ∧ Pre w) (fun v F => v = .bool (l.any p)) := by
  refine PureSpec.of_xc tabOk Tryz.func92 rfl (by decide) (n := Tryz.f92.ntmps - 2) rfl rfl fun w0 av => ?_
  conv => whnf
  refine XCall.val (indexEn_spec f Pre p u l h hh hl hf) (fun w hw => hw) (fun v D hv => ?_)
  obtain ⟨j, hj⟩ : ∃ j, j = fint (l.findIdx? p) := ⟨_, rfl⟩
  rw [← hj] at hv
  subst hv
  conv => whnf
  repeat (refine XSame.of ?_; conv => whnf)
  refine ⟨_, Ent.refl _, ?_⟩
  show Value.bool (iGe j 0) = _
  congr 1
  rw [iGe_eq, hj]
  cases hq : l.findIdx? p with
  | none =>
    rw [List.findIdx?_eq_none_iff] at hq
    have : l.any p = false := by
      rw [List.any_eq_false]
      exact fun x hx => by simp [hq x hx]
    rw [this]
    rfl
  | some k =>
    rw [List.findIdx?_eq_some_iff_getElem] at hq
    obtain ⟨hk, h1, h2⟩ := hq
    have : l.any p = true := List.any_eq_true.2 ⟨l[k], List.getElem_mem hk, h1⟩
    rw [this]
    show decide ((k : Int) ≥ 0) = true
    simp

theorem pentriesO_spec (c : List UInt8) (h : Hd) (hh : h.Ok c.length) (hc : c.length = 128) : PureSpec Tryz.prog 88 [h.v c.length] (fun w => By w h c) (RelEnO (pentsR c) (pentsOk c)) := by
  have hcap := hh.cap
  refine PureSpec.of_xc tabOk Tryz.func88 rfl (by decide) (n := Tryz.f88.ntmps - 1) rfl rfl fun w0 av => ?_
  conv => whnf
  refine XStop.loop tabOk (ι := Nat × Option Addr × Nat × List Value) ([4, 5, 6, 7, 8, 9] ++ List.range' 10 52) (fun x => x.1 ≤ 8 ∧ Own 2 x.1 x.2.1 x.2.2.1 x.2.2.2 (enCs (ens c x.1)) ∧ ∀ j, j < x.1 → PnOk c j)
    (fun x => [(4, .v (.slice x.2.1 x.1 x.2.2.1)), (10, .v (.int .i64 (x.1 : Int)))]) (fun _ => []) (fun x => ⟨fun w => By w h c, orow x.2.1 x.2.2.2⟩)
    (fun x => 8 - x.1) (0, none, 0, []) ⟨Nat.zero_le _, Own.nil 2, fun j hj => by omega⟩ ?_ rfl (Ent.of_le ⟨by simp [orow], fun w hw => hw⟩) fun x hx => ?_
  · conv => whnf
    repeat (first | exact FLe.nil | refine FLe.any ?_ | refine FLe.cons ?_)
  obtain ⟨i, a, cap, C⟩ := x
  obtain ⟨hi, hO, hall⟩ := hx
  dsimp only at hi hO hall ⊢
  conv => whnf
  refine XIf.split (fun hlt => ?_) (fun hlt => ?_)
  · conv => whnf
    have hlt' : i < 8 := by
      simp only [iLt_eq, decide_eq_true_eq] at hlt
      omega
    have em : IntKind.i64.wrap ((i : Int) * 16) = ((16 * i : Nat) : Int) := by
      rw [wrap_i64 (by omega)]
      omega
    have em2 : IntKind.i64.wrap (IntKind.i64.wrap ((i : Int) + 1) * 16) = ((16 * i + 16 : Nat) : Int) := by
      rw [wrap_i64 (n := (i : Int) + 1) (by omega), wrap_i64 (by omega)]
      omega
    have hok : (Hd.sub h (16 * i)).Ok 16 := Hd.sub_ok hh (by omega)
    have hok14 : (Hd.sub h (16 * i)).Ok 14 := Hd.sub_ok hh (by omega)
    have hby : ∀ w, By w h c → By w (Hd.sub h (16 * i)) (cut c (16 * i) 16) := fun w hw => By.sub hw (by omega)
    have hbl : (cut c (16 * i) 16).length = 16 := cut_len (by omega)
    have hbt : ∀ k, k < 16 → byt (cut c (16 * i) 16) k = byt c (16 * i + k) := fun k hk => byt_cut (by omega) hk
    refine XVal.of_read (XRead.sub2 tabOk (t := 23) rfl rfl rfl rfl (16 * i) 16 em em2 (by omega) ?_)
    conv => whnf
    repeat (refine XSame.of ?_; conv => whnf)
    obtain ⟨n14, hn14⟩ : ∃ n, n = 14 := ⟨_, rfl⟩
    refine XVal.of_read (XRead.subTo tabOk (t := 23) rfl rfl rfl n14 (by rw [hn14]; rfl) (by have := hok.cap; omega) ?_)
    conv => whnf
    repeat (refine XSame.of ?_; conv => whnf)
    obtain ⟨cs, hcs⟩ : ∃ cs : List UInt8, cs = [0] := ⟨_, rfl⟩
    refine XCall.val (trimRight_spec (cut c (16 * i) 16) (Hd.sub h (16 * i)) n14 (by rw [hn14]; exact hok14) (by omega) (by omega) (by omega) [0] rfl) (fun w hw => hby w hw) (fun v D hv => ?_)
    rw [hn14] at hv
    obtain ⟨t, ht⟩ : ∃ t, t = tlen (cut c (16 * i) 16) 14 := ⟨_, rfl⟩
    rw [← ht] at hv
    subst hv
    have ht14 : t ≤ 14 := ht ▸ tlen_le _ 14
    have hct : ((cut c (16 * i) 16).take t) = cut c (16 * i) t := by
      unfold cut
      rw [List.take_take, Nat.min_eq_left (by omega)]
    have hnl := nm_len hc hlt' ht14
    have hE1 := tl_name hc hlt' ht
    have hE2 := tl_of hc hlt' ht
    conv => whnf
    repeat (refine XSame.of ?_; conv => whnf)
    refine XVal.of_read (XRead.bytes tabOk (t := 23) (u := 9) rfl rfl rfl rfl rfl rfl (l := cut c (16 * i) t) (.fact fun w hw => by have h2 := RowAt.take (hby w hw) t; rw [← List.map_take, hct] at h2; exact h2) hnl.symm ?_)
    conv => whnf
    repeat (refine XSame.of ?_; conv => whnf)
    intro b7
    conv => whnf
    repeat (refine XSame.of ?_; conv => whnf)
    refine XVal.of_read (XRead.byteAt tabOk (t := 23) rfl rfl rfl rfl 14 rfl (by omega) hok fun ad had => ?_)
    conv => whnf
    repeat (refine XSame.of ?_; conv => whnf)
    refine XVal.of_read (XRead.byteLd' tabOk (t := 5) rfl rfl had (.fact fun w h => hby w h) rfl (by omega) ?_)
    rw [hbt 14 (by omega)]
    conv => whnf
    repeat (refine XSame.of ?_; conv => whnf)
    rw [wrap_byt]
    have hbad : ∀ (D : World → Prop) (rs : List (Nat × Row)), ¬ PnOk c i → ∃ F', Ent ⟨D, rs⟩ F' ∧ RelEnO (pentsR c) (pentsOk c) (.tuple #[.slice none 0 0, .bool false]) F' := fun D rs hn => pents_no hlt' hn
    have hb15 := hbt 15 (by omega)
    generalize cut c (16 * i) t = nm at *
    generalize byt c (16 * i + 14) = nd at *
    refine XVal.of_read (XRead.strEq (l := nm) (m := []) ?_)
    conv => whnf
    repeat (refine XSame.of ?_; conv => whnf)
    generalize hun : ((nm == []) && iEq (nd : Int) 0) = un
    have hun' : un = true ↔ nm = [] ∧ nd = 0 := by
      rw [← hun, Bool.and_eq_true, iEq_eq]
      simp
    have hlast : ∀ (D : World → Prop), PnOk c i → D = D := fun _ _ => rfl
    have hvs := valid_spec nm (by omega)
    have hsee : ∀ bs cs, Sees w0 (fun _ _ => False) av bs cs ⟨fun w => By w h c, orow a C⟩ a (enCs (ens c i)) := fun bs cs => by
      have := Own.sees (w0 := w0) (R := fun _ _ => False) (av := av) (bs := bs) (cs := cs) (r1 := []) (r2 := []) (D := fun w => By w h c) hO
      simpa using this
    have hel : (ens c i).length = i := by simp [ens]
    cases un
    · have hun2 : ¬ (nm = [] ∧ nd = 0) := fun h => by
        have := hun'.2 h
        cases this
      conv => whnf
      repeat (refine XSame.of ?_; conv => whnf)
      refine XCall.val hvs (fun w hw => trivial) (fun v D hv => ?_)
      generalize hvn : vname nm = vn at hv
      subst hv
      cases vn
      · conv => whnf
        repeat (refine XSame.of ?_; conv => whnf)
        repeat' (first
          | (refine XIf.yes rfl ?_; conv => whnf))
        refine hbad _ _ fun hp => ?_
        rcases hp.name with h5 | h5
        · rw [hE2 hp] at h5
          exact hun2 (by simpa using h5)
        · rw [hE2 hp] at h5
          rw [h5] at hvn
          cases hvn
      obtain ⟨hnl2, hE, htail⟩ := hE1 (.inr hvn)
      conv => whnf
      repeat (refine XSame.of ?_; conv => whnf)
      repeat' (first
        | (refine XIf.no rfl ?_; conv => whnf))
      refine XVal.of_read (XRead.byteAt tabOk (t := 23) rfl rfl rfl rfl 15 rfl (by omega) hok fun ad had => ?_)
      conv => whnf
      repeat (refine XSame.of ?_; conv => whnf)
      refine XVal.of_read (XRead.byteLd' tabOk (t := 5) rfl rfl had (.fact fun w h => hby w h) rfl (by omega) ?_)
      rw [hb15]
      conv => whnf
      repeat (refine XSame.of ?_; conv => whnf)
      refine XIf.split (fun hpd => ?_) (fun hpd => ?_)
      · conv => whnf
        repeat (refine XSame.of ?_; conv => whnf)
        exact hbad _ _ fun hp => by
          have := hp.pad
          rw [this] at hpd
          simp [iNe_eq] at hpd
      have hpd' : byt c (16 * i + 15) = 0 := by
        simp [iNe_eq] at hpd
        omega
      have hcs := containsEn_spec 131 (fun w => RowAt w (some ⟨b7, 0, none⟩) [strV nm]) (fun e => e.1 == nm) (.pointer (some ⟨b7, 0, none⟩)) (ens c i) ⟨a, cap⟩ (by rw [hel]; exact ⟨fun ha => hO.none_nil ha, hO.fit⟩) (by omega) (fun e _ => sameName_spec e b7 nm)
      rw [hel] at hcs
      conv => whnf
      repeat (refine XSame.of ?_; conv => whnf)
      refine XCall.look hcs (Loc.and (Loc.row _ _) (Loc.row _ _)) (fun w hst => ⟨hsee _ _ w hst, Sees.box 0 rfl (by simp) rfl w hst⟩) ?_
      generalize hcn : (ens c i).any (fun e => e.1 == nm) = cn
      have hcn' : cn = true ↔ ∃ k, k < i ∧ (enR c k).1 = nm := by
        rw [← hcn, List.any_eq_true]
        constructor
        · rintro ⟨e, he, h5⟩
          obtain ⟨k, hk, rfl⟩ := List.mem_map.1 he
          exact ⟨k, List.mem_range.1 hk, by simpa using h5⟩
        · rintro ⟨k, hk, h5⟩
          exact ⟨enR c k, List.mem_map.2 ⟨k, List.mem_range.2 hk, rfl⟩, by simpa using h5⟩
      cases cn
      · have hOk : PnOk c i := ⟨htail, hpd', .inr (by rw [hE]; exact hvn), .inr fun k hk h5 => by
          rw [hE] at h5
          have := hcn'.2 ⟨k, hk, h5⟩
          cases this⟩
        conv => whnf
        repeat (refine XSame.of ?_; conv => whnf)
        repeat' (first
          | (refine XIf.no rfl ?_; conv => whnf))
        refine XVal.build tabOk (t := 111) rfl rfl rfl [.agg ⟨[strV nm, intV nd]⟩] rfl rfl (by simp [Value.cells]) (by decide) fun b1 => ?_
        conv => whnf
        repeat (refine XSame.of ?_; conv => whnf)
        refine XVal.ent (F' := ⟨fun w => By w h c, [] ++ orow a C ++ [(b1, Row.c (enC (nm, nd)))]⟩) (Ent.of_le ⟨by simp [Value.cells, enC], fun w hw => hw⟩) ?_
        refine XVal.append tabOk (t := 111) (xt := 111) rfl rfl rfl rfl rfl rfl (r1 := []) (r2 := [(b1, Row.c (enC (nm, nd)))]) (M := enC (nm, nd)) hO (Sees.row (by simp)) rfl (by simp [enC, strV, intV, oneCell]) (by omega) (by simp; omega) fun a' c' C' hO' => ?_
        conv => whnf
        repeat (refine XSame.of ?_; conv => whnf)
        refine ⟨(i + 1, a', c', C'), ⟨⟨hlt', ?_, fun j hj => ?_⟩, by dsimp only; omega⟩, ?_, ?_, ?_⟩
        · dsimp only
          rw [ens_next, enCs_snoc, hE]
          exact hO'
        · rcases Nat.lt_or_eq_of_le (Nat.lt_succ_iff.1 hj) with h5 | h5
          · exact hall j h5
          · rw [h5]; exact hOk
        · conv => whnf
          refine ⟨?_, rfl⟩
          repeat (first | exact FLe.nil | refine FLe.any ?_ | refine FLe.cons ?_ | refine FLe.eq (by rw [wrap_i64 (by omega)]; rfl) ?_)
        · conv => whnf
          exact trivial
        · refine Ent.of_le ⟨by simp, fun w hw => hw⟩

      · conv => whnf
        repeat (refine XSame.of ?_; conv => whnf)
        repeat' (first
          | (refine XIf.yes rfl ?_; conv => whnf))
        refine hbad _ _ fun hp => ?_
        obtain ⟨k, hk, h5⟩ := hcn'.1 rfl
        rcases hp.only with h6 | h6
        · rw [hE] at h6
          have h6 : nm = [] := h6
          rw [h6] at hvn
          cases hvn
        · have := h6 k hk
          rw [hE] at this
          exact this h5
    · obtain ⟨hn0, hnd0⟩ := hun'.1 rfl
      obtain ⟨hnl2, hE, htail⟩ := hE1 (.inl hn0)
      conv => whnf
      repeat (refine XSame.of ?_; conv => whnf)
      repeat' (first
        | (refine XIf.no rfl ?_; conv => whnf))
      refine XVal.of_read (XRead.byteAt tabOk (t := 23) rfl rfl rfl rfl 15 rfl (by omega) hok fun ad had => ?_)
      conv => whnf
      repeat (refine XSame.of ?_; conv => whnf)
      refine XVal.of_read (XRead.byteLd' tabOk (t := 5) rfl rfl had (.fact fun w h => hby w h) rfl (by omega) ?_)
      rw [hb15]
      conv => whnf
      repeat (refine XSame.of ?_; conv => whnf)
      refine XIf.split (fun hpd => ?_) (fun hpd => ?_)
      · conv => whnf
        repeat (refine XSame.of ?_; conv => whnf)
        exact hbad _ _ fun hp => by
          have := hp.pad
          rw [this] at hpd
          simp [iNe_eq] at hpd
      have hpd' : byt c (16 * i + 15) = 0 := by
        simp [iNe_eq] at hpd
        omega
      have hOk : PnOk c i := ⟨htail, hpd', .inl (by rw [hE, hn0, hnd0]), .inl (by rw [hE]; exact hn0)⟩
      conv => whnf
      repeat (refine XSame.of ?_; conv => whnf)
      repeat' (first
        | (refine XIf.no rfl ?_; conv => whnf))
      refine XVal.build tabOk (t := 111) rfl rfl rfl [.agg ⟨[strV nm, intV nd]⟩] rfl rfl (by simp [Value.cells]) (by decide) fun b1 => ?_
      conv => whnf
      repeat (refine XSame.of ?_; conv => whnf)
      refine XVal.ent (F' := ⟨fun w => By w h c, [] ++ orow a C ++ [(b1, Row.c (enC (nm, nd)))]⟩) (Ent.of_le ⟨by simp [Value.cells, enC], fun w hw => hw⟩) ?_
      refine XVal.append tabOk (t := 111) (xt := 111) rfl rfl rfl rfl rfl rfl (r1 := []) (r2 := [(b1, Row.c (enC (nm, nd)))]) (M := enC (nm, nd)) hO (Sees.row (by simp)) rfl (by simp [enC, strV, intV, oneCell]) (by omega) (by simp; omega) fun a' c' C' hO' => ?_
      conv => whnf
      repeat (refine XSame.of ?_; conv => whnf)
      refine ⟨(i + 1, a', c', C'), ⟨⟨hlt', ?_, fun j hj => ?_⟩, by dsimp only; omega⟩, ?_, ?_, ?_⟩
      · dsimp only
        rw [ens_next, enCs_snoc, hE]
        exact hO'
      · rcases Nat.lt_or_eq_of_le (Nat.lt_succ_iff.1 hj) with h5 | h5
        · exact hall j h5
        · rw [h5]; exact hOk
      · conv => whnf
        refine ⟨?_, rfl⟩
        repeat (first | exact FLe.nil | refine FLe.any ?_ | refine FLe.cons ?_ | refine FLe.eq (by rw [wrap_i64 (by omega)]; rfl) ?_)
      · conv => whnf
        exact trivial
      · refine Ent.of_le ⟨by simp, fun w hw => hw⟩

  · conv => whnf
    have hie : i = 8 := by
      simp only [iLt_eq, decide_eq_false_iff_not] at hlt
      omega
    subst hie
    have h1 : pentsOk c = true := decide_eq_true hall
    have h2 : pentsR c = ens c 8 := by
      unfold pentsR
      rw [h1]
      rfl
    rw [h1, h2]
    have hel : (ens c 8).length = 8 := by simp [ens]
    refine ⟨⟨fun _ => True, orow a C⟩, Ent.imp fun _ _ => trivial, a, cap, C, ?_, by rw [hel]; exact hO, rfl⟩
    rw [hel]

theorem pentries_spec (c : List UInt8) (h : Hd) (hh : h.Ok c.length) (hc : c.length = 128) : PureSpec Tryz.prog 88 [h.v c.length] (fun w => By w h c) (RelEn (pentsR c) (pentsOk c)) :=
  (pentriesO_spec c h hh hc).weaken fun v F ⟨a, cap, C, hv, hO, hF⟩ => by
    subst hv hF
    exact ⟨⟨fun w => RowAt w a (enCs (pentsR c)), []⟩, (Own.gives hO).trans (Ent.imp fun w h => h.2), ⟨a, cap⟩, rfl, ⟨fun ha => hO.none_nil ha, hO.fit⟩, rfl⟩

end Go.Proofs.YtfeoedkmndkbjaaGreatDoor
namespace Go.Proofs.YtfeoedkmndkbjaaGreatDoor
open Go Go.Sx
set_option maxRecDepth 100000
set_option maxHeartbeats 4000000
set_option linter.unusedVariables false
set_option linter.unusedSimpArgs false

section
variable {P : Program} {tab : Sx.Tab} {w0 : World} {R : Nat → Nat → Prop} {av : Nat → Prop} {bs : List (Nat × Nat)} {cs : List (List Value)} {F : Fx}
theorem XRead.lookupIn2 (hT : TabOk P tab) {t kt et : TypeId} {ti tk : TI} (ht : Sx.look tab t = some ti) (hk : ti.k = .map kt et) (hkt : Sx.look tab kt = some tk) {d : TypeDesc} (hd : keyT tk.k = some d) {b : Nat} {l : KVs} {k v : Value} {K : Value → Prop}
    (hm : SeesM w0 R av bs cs F b l) (hkk : MapKept.IsKey d k) (hl : ∀ p ∈ l, MapKept.IsKey d p.1) (hv : ∀ (i : Nat) u, l[i]? = some (k, u) → u = v) (hin : ∃ p ∈ l, p.1 = k) (h : ∀ ok : Bool, ok = true → K (.tuple #[v, .bool ok])) :
    XRead P w0 R av (Instr.lookup t (.map (some b)) k true) bs cs F K := XRead.lookupIn hT ht hk hkt hd hm hkk hl hv hin (h true rfl)

theorem XRead.lookupNo2 (hT : TabOk P tab) {t kt et : TypeId} {ti tk : TI} (ht : Sx.look tab t = some ti) (hk : ti.k = .map kt et) (hkt : Sx.look tab kt = some tk) {d : TypeDesc} (hd : keyT tk.k = some d) {b : Nat} {l : KVs} {k z : Value} {K : Value → Prop}
    (hm : SeesM w0 R av bs cs F b l) (hkk : MapKept.IsKey d k) (hl : ∀ p ∈ l, MapKept.IsKey d p.1) (hno : ∀ p ∈ l, p.1 ≠ k) (hz : (P.info? et).bind (·.zero) = some z) (h : ∀ ok : Bool, ok = false → K (.tuple #[z, .bool ok])) :
    XRead P w0 R av (Instr.lookup t (.map (some b)) k true) bs cs F K := XRead.lookupNo hT ht hk hkt hd hm hkk hl hno hz (h false rfl)
end

/-- A tree: the directories in the order of the map, the kinds, the entries and where they lie. -/
structure Tree where
  dl : List Nat
  K : Nat → Nat
  E : Nat → List En
  H : Nat → Hd

structure Tree.Ok (T : Tree) : Prop where
  len : ∀ n, (T.E n).length = 8
  hd : ∀ n, (T.H n).Ok 8
  nd : T.dl.Nodup
  lt : ∀ n ∈ T.dl, n < 32
  small : ∀ n, T.K n ≤ 1000000
  node : ∀ n, ∀ e ∈ T.E n, e.2 ≤ 1000000

def Tree.kv (T : Tree) (l : List Nat) : KVs := l.map fun m => (intV m, .slice (T.H m).a 8 (T.H m).c)
def kindsC (K : Nat → Nat) (n : Nat) : List Value := (List.range n).map (fun m => intV (K m)) ++ List.replicate (32 - n) (intV 0)
def treeC (X : Value) (bm : Nat) (K : Nat → Nat) (n : Nat) : List Value := X :: .map (some bm) :: kindsC K n

def TreeAt (T : Tree) (X : Value) (bt bm : Nat) (w : World) : Prop :=
  RowAt w (some ⟨bt, 0, none⟩) (treeC X bm T.K 32) ∧ MapAt w bm (T.kv T.dl) ∧ ∀ n ∈ T.dl, RowAt w (T.H n).a (enCs (T.E n))

theorem Tree.kv_key (T : Tree) (l : List Nat) : ∀ p ∈ T.kv l, MapKept.IsKey (.int .i64) p.1 := by
  intro p hp
  obtain ⟨n, _, rfl⟩ := List.mem_map.1 hp
  rfl

theorem intV_inj {a b : Nat} (h : intV a = intV b) : a = b := by
  unfold intV at h
  simp at h
  omega

theorem Tree.kv_no (T : Tree) {l : List Nat} {n : Nat} (h : n ∉ l) : ∀ p ∈ T.kv l, p.1 ≠ intV n := by
  intro p hp he
  obtain ⟨m, hm, rfl⟩ := List.mem_map.1 hp
  exact h (intV_inj he ▸ hm)

theorem Tree.kv_val (T : Tree) {l : List Nat} {n : Nat} : ∀ (i : Nat) u, (T.kv l)[i]? = some (intV n, u) → u = .slice (T.H n).a 8 (T.H n).c := by
  intro i u h
  unfold Tree.kv at h
  rw [List.getElem?_map] at h
  cases hq : l[i]? with
  | none => rw [hq] at h; cases h
  | some m =>
    rw [hq] at h
    simp only [Option.map_some, Option.some.injEq, Prod.mk.injEq] at h
    obtain ⟨h1, h2⟩ := h
    rw [← h2, intV_inj h1]

theorem Tree.kv_in (T : Tree) {l : List Nat} {n : Nat} (h : n ∈ l) : ∃ p ∈ T.kv l, p.1 = intV n := ⟨_, List.mem_map.2 ⟨n, h, rfl⟩, rfl⟩

theorem kindsC_len (K : Nat → Nat) {n : Nat} (hn : n ≤ 32) : (kindsC K n).length = 32 := by
  simp [kindsC]
  omega

theorem treeC_kind (X : Value) (bm : Nat) (K : Nat → Nat) {n m : Nat} (hm : m < n) : (treeC X bm K n)[2 + m]? = some (intV (K m)) := by
  unfold treeC
  rw [show 2 + m = m + 1 + 1 by omega, List.getElem?_cons_succ, List.getElem?_cons_succ]
  unfold kindsC
  rw [List.getElem?_append_left (by simp; omega)]
  simp [hm]

/-- What find answers. -/
def Tree.find (T : Tree) (n : Nat) (s : List UInt8) : Nat × Nat := if n ∈ T.dl then match fidx (T.E n) s with
    | none => (0, 8)
    | some k => (((T.E n)[k]?.map (·.2)).getD 0, 0)
  else (0, 14)

def Tree.walk (T : Tree) : List (List UInt8) → Nat → Nat × Nat
  | [], n => (n, 0)
  | s :: r, n => if (T.find n s).2 ≠ 0 then (0, (T.find n s).2) else T.walk r (T.find n s).1

theorem findName_spec (e : En) (b : Nat) (s : List UInt8) : PureSpec Tryz.prog 120 [.agg ⟨enC e⟩, .pointer (some ⟨b, 0, none⟩)] (fun w => RowAt w (some ⟨b, 0, none⟩) [strV s]) (fun v F => v = .bool (e.1 == s)) := by
  refine PureSpec.of_xc tabOk Tryz.func120 rfl (by decide) (n := Tryz.f120.ntmps - 2) rfl rfl fun w0 av => ?_
  conv => whnf
  intro b1
  conv => whnf
  repeat (refine XSame.of ?_; conv => whnf)
  refine XVal.of_read (XRead.loadF tabOk (t := 9) rfl rfl (ad := ⟨b, 0, none⟩) (k := 0) (L := [strV s]) (v := strV s) (.fact fun w hw => hw) (fun _ => rfl) rfl ?_)
  conv => whnf
  repeat (refine XSame.of ?_; conv => whnf)
  refine XVal.of_read (XRead.strEq (l := e.1) (m := s) ?_)
  conv => whnf
  repeat (refine XSame.of ?_; conv => whnf)
  exact ⟨_, Ent.refl _, rfl⟩

theorem tfind_spec (T : Tree) (hT : T.Ok) (X : Value) (bt bm : Nat) (n : Nat) (hn : n ≤ 1000000) (s : List UInt8) :
    PureSpec Tryz.prog 68 [.pointer (some ⟨bt, 0, none⟩), .int .i64 (n : Int), strV s] (TreeAt T X bt bm) (RelII (T.find n s).1 (T.find n s).2) := by
  have hm1 : (treeC X bm T.K 32)[1]? = some (.map (some bm)) := rfl
  refine PureSpec.of_xc tabOk Tryz.func68 rfl (by decide) (n := Tryz.f68.ntmps - 3) rfl rfl fun w0 av => ?_
  have hlen := hT.len n
  have hhd := hT.hd n
  unfold TreeAt
  generalize treeC X bm T.K 32 = C at *
  obtain ⟨r, hr⟩ : ∃ r, r = T.find n s := ⟨_, rfl⟩
  rw [← hr]
  unfold Tree.find at hr
  conv => whnf
  repeat (refine XSame.of ?_; conv => whnf)
  intro b5
  conv => whnf
  repeat (refine XSame.of ?_; conv => whnf)
  refine XVal.of_read (XRead.loadF tabOk (t := 114) rfl rfl (ad := ⟨bt, 0, none⟩) (k := 1) (L := C) (v := .map (some bm)) (.fact fun w hw => hw.1) (fun _ => rfl) hm1 ?_)
  conv => whnf
  repeat (refine XSame.of ?_; conv => whnf)
  by_cases hmem : n ∈ T.dl
  · rw [if_pos hmem] at hr
    refine XVal.of_read (XRead.lookupIn2 tabOk (t := 114) rfl rfl rfl rfl (SeesM.fact fun w hw => hw.2.1) rfl (T.kv_key T.dl) (v := .slice (T.H n).a 8 (T.H n).c) T.kv_val (T.kv_in hmem) fun ok hok => ?_)
    conv => whnf
    repeat (refine XSame.of ?_; conv => whnf)
    refine XIf.no (by subst hok; rfl) ?_
    have hix := indexEn_spec 120 (fun w => RowAt w (some ⟨b5, 0, none⟩) [strV s]) (fun e => e.1 == s) (.pointer (some ⟨b5, 0, none⟩)) (T.E n) (T.H n) (by rw [hlen]; exact hhd) (by omega) (fun e _ => findName_spec e b5 s)
    rw [hlen] at hix
    conv => whnf
    repeat (refine XSame.of ?_; conv => whnf)
    refine XCall.look hix (Loc.and (Loc.row _ _) (Loc.row _ _)) (fun w hst => ⟨hst.now.2.2 n hmem, Sees.box 0 rfl (by simp) rfl w hst⟩) ?_
    have hfd : (T.E n).findIdx? (fun e => e.1 == s) = fidx (T.E n) s := rfl
    rw [hfd]
    cases hf : fidx (T.E n) s with
    | none =>
      rw [hf] at hr
      obtain ⟨z, hz⟩ : ∃ z : Int, z = fint none := ⟨_, rfl⟩
      rw [← hz, hr]
      conv => whnf
      repeat (refine XSame.of ?_; conv => whnf)
      refine XIf.yes (by subst hz; simp [iLt_eq, fint]) ?_
      conv => whnf
      repeat (refine XSame.of ?_; conv => whnf)
      exact ⟨_, Ent.refl _, rfl⟩
    | some q =>
      have hq := fidx_lt hf
      rw [hf] at hr
      dsimp only at hr
      rw [List.getElem?_eq_getElem hq] at hr
      obtain ⟨z, hz⟩ : ∃ z : Int, z = fint (some q) := ⟨_, rfl⟩
      rw [← hz]
      have hz : z = (q : Int) := hz
      rw [hr]
      conv => whnf
      repeat (refine XSame.of ?_; conv => whnf)
      refine XIf.no (by subst hz; simp [iLt_eq]) ?_
      conv => whnf
      repeat (refine XSame.of ?_; conv => whnf)
      refine XVal.of_read (XRead.index tabOk (t := 111) rfl rfl rfl (by omega) (by omega) hhd.nil fun ad2 had2 => ?_)
      conv => whnf
      repeat (refine XSame.of ?_; conv => whnf)
      refine XVal.of_read (XRead.loadF tabOk (t := 3) rfl rfl (ad := ad2) (k := 2 * q + 1) (L := enCs (T.E n)) (v := intV (T.E n)[q].2) (.fact fun w hw => had2 ▸ hw.2.2 n hmem) (fun hs => by rw [Addr.addAdd hs, hz]; congr 1; simp; try omega) (enCs_get hq).2 ?_)
      conv => whnf
      repeat (refine XSame.of ?_; conv => whnf)
      exact ⟨_, Ent.refl _, rfl⟩
  · rw [if_neg hmem] at hr
    rw [hr]
    refine XVal.of_read (XRead.lookupNo2 tabOk (t := 114) rfl rfl rfl rfl (SeesM.fact fun w hw => hw.2.1) rfl (T.kv_key T.dl) (T.kv_no hmem) (z := .slice none 0 0) rfl fun ok hok => ?_)
    conv => whnf
    repeat (refine XSame.of ?_; conv => whnf)
    refine XIf.yes (by subst hok; rfl) ?_
    conv => whnf
    repeat (refine XSame.of ?_; conv => whnf)
    exact ⟨_, Ent.refl _, rfl⟩

theorem tfind_small {T : Tree} (hT : T.Ok) (n : Nat) (s : List UInt8) : (T.find n s).1 ≤ 1000000 := by
  unfold Tree.find
  split
  · split
    · exact Nat.zero_le _
    · rename_i k hk
      have hq := fidx_lt hk
      rw [List.getElem?_eq_getElem hq]
      exact hT.node n _ (List.getElem_mem hq)
  · exact Nat.zero_le _

theorem twalk_spec (T : Tree) (hT : T.Ok) (X : Value) (bt bm : Nat) (k : Hd) (l : List (List UInt8)) (hk : k.Ok l.length) (hll : l.length ≤ 1000000) :
    PureSpec Tryz.prog 67 [.pointer (some ⟨bt, 0, none⟩), k.v l.length] (fun w => TreeAt T X bt bm w ∧ StrAt w k l) (RelII (T.walk l 0).1 (T.walk l 0).2) := by
  obtain ⟨F0, hF0⟩ : ∃ x, x = T.walk l 0 := ⟨_, rfl⟩
  rw [← hF0]
  refine PureSpec.of_xc tabOk Tryz.func67 rfl (by decide) (n := Tryz.f67.ntmps - 2) rfl rfl fun w0 av => ?_
  conv => whnf
  refine XStop.loop tabOk (ι := Nat × Nat) ([6, 7, 8, 9, 10] ++ List.range' 13 16) (fun x => (x.1 ≤ l.length ∧ x.2 ≤ 1000000) ∧ F0 = T.walk (l.drop x.1) x.2)
    (fun x => [(6, .v (.int .i64 (x.2 : Int))), (13, .v (.int .i64 (x.1 : Int)))]) (fun _ => []) (fun x => ⟨fun w => TreeAt T X bt bm w ∧ StrAt w k l, []⟩)
    (fun x => l.length - x.1) (0, 0) ⟨⟨Nat.zero_le _, Nat.zero_le _⟩, hF0⟩ ?_ rfl (Ent.refl _) fun x hx => ?_
  · conv => whnf
    repeat (first | exact FLe.nil | refine FLe.any ?_ | refine FLe.cons ?_)
  obtain ⟨i, n⟩ := x
  obtain ⟨⟨hi, hn⟩, hfo⟩ := hx
  dsimp only at hi hn hfo ⊢
  conv => whnf
  refine XIf.split (fun hlt => ?_) (fun hlt => ?_)
  · have hlt' : i < l.length := by
      simp only [iLt_eq, decide_eq_true_eq] at hlt
      omega
    have hdr : l.drop i = l[i] :: l.drop (i + 1) := List.drop_eq_getElem_cons hlt'
    rw [hdr] at hfo
    unfold Tree.walk at hfo
    have hfs := tfind_spec T hT X bt bm n hn l[i]
    have hsm := tfind_small hT n l[i]
    generalize T.find n l[i] = r at *
    obtain ⟨m, e⟩ := r
    dsimp only at hfo hfs hsm
    conv => whnf
    repeat (refine XSame.of ?_; conv => whnf)
    refine XVal.of_read (XRead.index tabOk (t := 51) rfl rfl rfl (by omega) (by omega) hk.nil fun ad had => ?_)
    conv => whnf
    repeat (refine XSame.of ?_; conv => whnf)
    refine XVal.of_read (XRead.load tabOk (t := 9) rfl rfl (ad := ad) (k := i) (L := l.map strV) (v := strV l[i]) (.fact fun w hw => had ▸ hw.2) (by simp) (by simp [hlt']) ?_)
    conv => whnf
    repeat (refine XSame.of ?_; conv => whnf)
    refine XCall.val hfs (fun w hw => hw.1) (fun v D hv => ?_)
    unfold RelII at hv
    subst hv
    conv => whnf
    repeat (refine XSame.of ?_; conv => whnf)
    refine XIf.split (fun he => ?_) (fun he => ?_)
    · have he' : e ≠ 0 := by
        simp [iNe_eq] at he
        omega
      rw [if_pos he'] at hfo
      rw [hfo]
      conv => whnf
      repeat (refine XSame.of ?_; conv => whnf)
      exact ⟨_, Ent.refl _, rfl⟩
    · have he' : e = 0 := by
        simp [iNe_eq] at he
        omega
      rw [if_neg (by omega)] at hfo
      conv => whnf
      repeat (refine XSame.of ?_; conv => whnf)
      refine ⟨(i + 1, m), ⟨⟨⟨hlt', hsm⟩, hfo⟩, by dsimp only; omega⟩, ?_, ?_, Ent.refl _⟩
      · conv => whnf
        refine ⟨?_, rfl⟩
        repeat (first | exact FLe.nil | refine FLe.any ?_ | refine FLe.cons ?_ | refine FLe.eq (by rw [wrap_i64 (by omega)]; rfl) ?_)
      · conv => whnf
        exact trivial
  · have hie : i = l.length := by
      simp only [iLt_eq, decide_eq_false_iff_not] at hlt
      omega
    subst hie
    rw [List.drop_length] at hfo
    rw [hfo]
    conv => whnf
    exact ⟨_, Ent.refl _, rfl⟩

end Go.Proofs.YtfeoedkmndkbjaaGreatDoor
namespace Go.Proofs.YtfeoedkmndkbjaaGreatDoor
open Go Go.Sx
set_option maxRecDepth 100000
set_option maxHeartbeats 4000000
set_option linter.unusedVariables false
set_option linter.unusedSimpArgs false

noncomputable def Tree.es (T : Tree) (n : Nat) : List En := if n ∈ T.dl then T.E n else []

/-- Paths and nodes in preorder. -/
noncomputable def Tree.V (T : Tree) : Nat → Nat → List UInt8 → List (List UInt8 × Nat)
  | 0, _, _ => []
  | f + 1, n, p => (p, n) :: (T.es n).flatMap fun e => if e.1 = [] then [] else T.V f e.2 (p ++ [47] ++ e.1)

def Tree.low (T : Tree) : Nat → Nat → Prop
  | 0, _ => False
  | f + 1, n => ∀ e ∈ T.es n, e.1 ≠ [] → T.low f e.2

section
variable {S : Type}
def Steps (step : S → List UInt8 → Nat → S → Prop) : List (List UInt8 × Nat) → S → S → Prop
  | [], s, s' => s' = s
  | (p, n) :: l, s, s' => ∃ s1, step s p n s1 ∧ Steps step l s1 s'

theorem Steps.append {step : S → List UInt8 → Nat → S → Prop} : ∀ {l m : List (List UInt8 × Nat)} {s s1 s2 : S}, Steps step l s s1 → Steps step m s1 s2 → Steps step (l ++ m) s s2
  | [], m, s, s1, s2, h, k => by
    cases h
    exact k
  | (p, n) :: l, m, s, s1, s2, ⟨q, h1, h2⟩, k => ⟨q, h1, Steps.append h2 k⟩

variable (T : Tree) (hT : T.Ok) (hname : ∀ n, ∀ e ∈ T.E n, e.1.length ≤ 14) (X : Value) (bt bm : Nat) (g : FuncId) (u : Value) (rows : S → List (Nat × Row)) (hrows : ∀ s, ∀ r ∈ rows s, CM r.2) (I : Nat → S → Prop) (Pre : World → Prop)
  (hPre : ∀ w, Pre w → TreeAt T X bt bm w) (step : S → List UInt8 → Nat → S → Prop)
  (hcb : ∀ (k : Nat) (s : S) (p : List UInt8) (n : Nat), I (k + 1) s → p.length ≤ 1000000 → n ≤ 1000000 → RowsSpec Tryz.prog g [strV p, .int .i64 (n : Int), u] (rows s) Pre (fun v F => ∃ s', I k s' ∧ step s p n s' ∧ F = ⟨fun _ => True, rows s'⟩))
include hT hname hrows hPre hcb

theorem visit_spec : ∀ (f n : Nat) (p : List UInt8) (s : S) (k : Nat), T.low f n → I ((T.V f n p).length + k) s → n ≤ 1000000 → p.length + 15 * f ≤ 1000000 →
    RowsSpec Tryz.prog 132 [.pointer (some ⟨bt, 0, none⟩), .int .i64 (n : Int), strV p, .func (.func g) #[] #[u]] (rows s) Pre (fun v F => ∃ s', I k s' ∧ Steps step (T.V f n p) s s' ∧ F = ⟨fun _ => True, rows s'⟩) := by
  intro f
  induction f with
  | zero => exact fun n p s k h _ _ _ => h.elim
  | succ f ih =>
    intro n p s k hlow hI hn hp
    have hm1 : (treeC X bm T.K 32)[1]? = some (.map (some bm)) := rfl
    have hP1 : ∀ w, Pre w → RowAt w (some ⟨bt, 0, none⟩) (treeC X bm T.K 32) := fun w hw => (hPre w hw).1
    generalize treeC X bm T.K 32 = C at *
    refine RowsSpec.of_xc tabOk Tryz.func132 rfl (by decide) (n := Tryz.f132.ntmps - 4) rfl rfl (hrows s) fun w0 av => ?_
    conv => whnf
    repeat (refine XSame.of ?_; conv => whnf)
    refine XCall.ent (F' := ⟨Pre, [] ++ rows s ++ []⟩) (Ent.of_le ⟨by simp, fun w h => h⟩) ?_
    obtain ⟨W, hW⟩ : ∃ W, W = (T.es n).flatMap fun e => if e.1 = [] then [] else T.V f e.2 (p ++ [47] ++ e.1) := ⟨_, rfl⟩
    have hV : T.V (f + 1) n p = (p, n) :: W := by rw [hW]; rfl
    rw [hV, List.length_cons, show W.length + 1 + k = W.length + k + 1 by omega] at hI
    rw [hV]
    refine XCall.rows (hcb _ s p n hI (by omega) hn) (fun w hw => hw) (fun v F hv => ?_)
    obtain ⟨s1, hI1, hs1, rfl⟩ := hv
    have hlow' : ∀ e ∈ T.es n, e.1 ≠ [] → T.low f e.2 := hlow
    have hnode : ∀ e ∈ T.es n, e.2 ≤ 1000000 ∧ e.1.length ≤ 14 := fun e he => by
      unfold Tree.es at he
      split at he
      · exact ⟨hT.node n e he, hname n e he⟩
      · cases he
    conv => whnf
    repeat (refine XSame.of ?_; conv => whnf)
    refine XVal.of_read (XRead.loadF tabOk (t := 114) rfl rfl (ad := ⟨bt, 0, none⟩) (k := 1) (L := C) (v := .map (some bm)) (.fact fun w hw => hP1 w hw.1) (fun _ => rfl) hm1 ?_)
    conv => whnf
    repeat (refine XSame.of ?_; conv => whnf)
    -- what the map holds
    obtain ⟨h, hh, hrow, hval⟩ : ∃ h : Hd, h.Ok (T.es n).length ∧ (∀ w, Pre w → RowAt w h.a (enCs (T.es n))) ∧ ((n ∈ T.dl ∧ h.v (T.es n).length = .slice (T.H n).a 8 (T.H n).c) ∨ (n ∉ T.dl ∧ h.v (T.es n).length = .slice none 0 0)) := by
      by_cases hmem : n ∈ T.dl
      · have he : T.es n = T.E n := if_pos hmem
        refine ⟨T.H n, by rw [he, hT.len]; exact hT.hd n, fun w hw => by rw [he]; exact (hPre w hw).2.2 n hmem, .inl ⟨hmem, by rw [he, hT.len]⟩⟩
      · have he : T.es n = [] := if_neg hmem
        exact ⟨Hd.nil, by rw [he]; exact Hd.nil_ok, fun w hw => by rw [he]; exact RowAt.nilA, .inr ⟨hmem, by rw [he]; rfl⟩⟩
    have hlook : ∀ {K : Value → Prop}, K (h.v (T.es n).length) → XRead Tryz.prog w0 (fun b _ => IsIn (rows s) b) av (Instr.lookup 114 (.map (some bm)) (.int .i64 (n : Int)) false) [] [] ⟨fun w => Pre w ∧ True, [] ++ rows s1 ++ []⟩ K := by
      intro K hK
      rcases hval with ⟨hmem, hval⟩ | ⟨hmem, hval⟩
      · rw [hval] at hK
        exact XRead.lookupIn tabOk (t := 114) rfl rfl rfl rfl (SeesM.fact fun w hw => (hPre w hw.1).2.1) rfl (T.kv_key T.dl) (v := .slice (T.H n).a 8 (T.H n).c) T.kv_val (T.kv_in hmem) hK
      · rw [hval] at hK
        exact XRead.lookupNo tabOk (t := 114) rfl rfl rfl rfl (SeesM.fact fun w hw => (hPre w hw.1).2.1) rfl (T.kv_key T.dl) (T.kv_no hmem) (z := .slice none 0 0) rfl hK
    refine XVal.of_read (hlook ?_)
    clear hlook hval
    have hes8 : (T.es n).length ≤ 8 := by
      unfold Tree.es
      split
      · rw [hT.len]
        exact Nat.le_refl _
      · exact Nat.zero_le _
    generalize T.es n = es at *
    conv => whnf
    repeat (refine XSame.of ?_; conv => whnf)
    refine XStop.loop tabOk (ι := Nat × S) ([9] ++ List.range' 21 18) (fun x => x.1 ≤ es.length ∧ I (((es.drop x.1).flatMap fun e => if e.1 = [] then [] else T.V f e.2 (p ++ [47] ++ e.1)).length + k) x.2 ∧ Steps step ((es.take x.1).flatMap fun e => if e.1 = [] then [] else T.V f e.2 (p ++ [47] ++ e.1)) s1 x.2)
      (fun x => [(21, .v (.int .i64 (x.1 : Int)))]) (fun _ => []) (fun x => ⟨Pre, rows x.2⟩)
      (fun x => es.length - x.1) (0, s1) ⟨Nat.zero_le _, (by dsimp only; rw [List.drop_zero, ← hW]; exact hI1), rfl⟩ ?_ rfl (Ent.of_le ⟨by simp, fun w hw => hw.1⟩) fun x hx => ?_
    · conv => whnf
      repeat (first | exact FLe.nil | refine FLe.any ?_ | refine FLe.cons ?_)
    obtain ⟨j, s2⟩ := x
    obtain ⟨hj, hI2, hst⟩ := hx
    dsimp only at hj hI2 hst ⊢
    conv => whnf
    repeat (refine XSame.of ?_; conv => whnf)
    refine XIf.split (fun hlt => ?_) (fun hlt => ?_)
    · have hlt' : j < es.length := by
        simp only [iLt_eq, decide_eq_true_eq] at hlt
        omega
      have htk : es.take (j + 1) = es.take j ++ [es[j]] := List.take_succ_eq_append_getElem hlt'
      rw [List.drop_eq_getElem_cons hlt', List.flatMap_cons, List.length_append, Nat.add_assoc] at hI2
      obtain ⟨hnd, hnl⟩ := hnode _ (List.getElem_mem hlt')
      have hlo := hlow' _ (List.getElem_mem hlt')
      conv => whnf
      repeat (refine XSame.of ?_; conv => whnf)
      refine XVal.of_read (XRead.index tabOk (t := 111) rfl rfl rfl (by omega) (by omega) hh.nil fun ad had => ?_)
      conv => whnf
      repeat (refine XSame.of ?_; conv => whnf)
      refine XVal.of_read (XRead.loads tabOk (t := 113) rfl rfl (ad := ad) (k := 2 * j) (L := enCs es) (m := enC es[j]) (.fact fun w hw => had ▸ hrow w hw) (by congr 1; show Int.toNat (j : Int) * 2 = _; rw [Int.toNat_natCast]; omega) (enCs_struct hlt') rfl ?_)
      generalize hej : es[j] = e at *
      obtain ⟨nm, nd⟩ := e
      dsimp only at hnd hnl hlo hI2
      conv => whnf
      repeat (refine XSame.of ?_; conv => whnf)
      intro b9
      conv => whnf
      repeat (refine XSame.of ?_; conv => whnf)
      refine XVal.of_read (XRead.strNe (l := nm) (m := []) ?_)
      conv => whnf
      repeat (refine XSame.of ?_; conv => whnf)
      refine XIf.split (fun hne => ?_) (fun hne => ?_)
      · have hne' : nm ≠ [] := by simpa using hne
        conv => whnf
        repeat (refine XSame.of ?_; conv => whnf)
        refine XVal.of_read (XRead.strAdd (l := p) (m := [47]) (by simp; omega) ?_)
        conv => whnf
        repeat (refine XSame.of ?_; conv => whnf)
        refine XVal.of_read (XRead.strAdd (l := p ++ [47]) (m := nm) (by simp; omega) ?_)
        conv => whnf
        repeat (refine XSame.of ?_; conv => whnf)
        refine XCall.ent (F' := ⟨Pre, [] ++ rows s2 ++ []⟩) (Ent.of_le ⟨by simp, fun w h => h⟩) ?_
        rw [if_neg hne'] at hI2
        refine XCall.rows (ih nd (p ++ [47] ++ nm) s2 _ (hlo hne') hI2 hnd (by simp; omega)) (fun w hw => hw) (fun v F hv => ?_)
        obtain ⟨s3, hI3, hs3, rfl⟩ := hv
        conv => whnf
        repeat (refine XSame.of ?_; conv => whnf)
        refine ⟨(j + 1, s3), ⟨⟨hlt', hI3, ?_⟩, by dsimp only; omega⟩, ?_, ?_, Ent.of_le ⟨by simp, fun w hw => hw.1⟩⟩
        · dsimp only
          rw [htk, List.flatMap_append]
          refine Steps.append hst ?_
          simp only [List.flatMap_cons, List.flatMap_nil, List.append_nil]
          rw [if_neg hne']
          exact hs3
        · conv => whnf
          refine ⟨?_, rfl⟩
          repeat (first | exact FLe.nil | refine FLe.any ?_ | refine FLe.cons ?_ | refine FLe.eq (by rw [wrap_i64 (by omega)]; rfl) ?_)
        · conv => whnf
          exact trivial
      · have hne' : nm = [] := by simpa using hne
        conv => whnf
        repeat (refine XSame.of ?_; conv => whnf)
        rw [if_pos hne', List.length_nil, Nat.zero_add] at hI2
        refine ⟨(j + 1, s2), ⟨⟨hlt', hI2, ?_⟩, by dsimp only; omega⟩, ?_, ?_, Ent.refl _⟩
        · dsimp only
          rw [htk, List.flatMap_append]
          refine Steps.append hst ?_
          simp only [List.flatMap_cons, List.flatMap_nil, List.append_nil]
          rw [if_pos hne']
          rfl
        · conv => whnf
          refine ⟨?_, rfl⟩
          repeat (first | exact FLe.nil | refine FLe.any ?_ | refine FLe.cons ?_ | refine FLe.eq (by rw [wrap_i64 (by omega)]; rfl) ?_)
        · conv => whnf
          exact trivial
    · have hje : j = es.length := by
        simp only [iLt_eq, decide_eq_false_iff_not] at hlt
        omega
      subst hje
      rw [List.take_length, ← hW] at hst
      rw [List.drop_length, List.flatMap_nil, List.length_nil, Nat.zero_add] at hI2
      conv => whnf
      repeat (refine XSame.of ?_; conv => whnf)
      exact ⟨⟨fun _ => True, rows s2⟩, Ent.of_le ⟨List.Sublist.refl _, fun w _ => trivial⟩, s2, hI2, ⟨s1, hs1, hst⟩, rfl⟩
end

end Go.Proofs.YtfeoedkmndkbjaaGreatDoor
