/- Parts of the proof: KuH, KuI, KuJ, KuK, KuL, KuM, KuN, KuO. -/
import Derived.Test.YtakammghcodmgaaGreatDoorQV
import Derived.Test.YtakammghcodmgaaGreatDoorQN
namespace Go.Proofs.YtakammghcodmgaaGreatDoor
open Go Go.Sx
set_option maxRecDepth 100000
set_option maxHeartbeats 4000000
set_option linter.unusedVariables false
set_option linter.unusedSimpArgs false

theorem pt_ck (s : Sta) (x : Int) (y : Sl Al) : laid (staC s) 365 [.int .i64 x, y.v] = staC { s with now := x, al := y } := by kernel_rfl
theorem pt_dk (s : Sta) (y : Sl Bs) (d : Chn) : laid (staC s) 308 (y.v :: dchC d) = staC { s with bk := y, dc := d } := by kernel_rfl
theorem pt_lk (s : Sta) (y : Lnk) : laid (staC s) 322 (lnkC y) = staC { s with lk := y } := by kernel_rfl
theorem pt_se (s : Sta) (y : Ser) : laid (staC s) 344 (serC y) = staC { s with se := y } := by kernel_rfl
theorem pt_ti (s : Sta) (y : Sl Ti) : laid (staC s) 272 [y.v] = staC { s with ti := y } := by kernel_rfl
theorem gt_ck (s : Sta) : ((staC s).drop 365).take 2 = [.int .i64 s.now, s.al.v] := by kernel_rfl
theorem gt_lk (s : Sta) : ((staC s).drop 322).take 22 = lnkC s.lk := by kernel_rfl
theorem gt_se (s : Sta) : ((staC s).drop 344).take 21 = serC s.se := by kernel_rfl
theorem gt_ti (s : Sta) : (staC s)[272]? = some s.ti.v := by kernel_rfl
theorem gt_q (s : Sta) : (staC s)[267]? = some s.q.v := by kernel_rfl
theorem gt_iq (s : Sta) : ((staC s).drop 367).take 6 = [.bool (s.M 0), .bool (s.M 1), .bool (s.M 2), .bool (s.M 3), .bool (s.M 4), s.pe.v] := by kernel_rfl

/-- What the ticks need of a state's memory. -/
def TkAt (DC I G : List UInt8) (S : Sta) (w : World) : Prop := S.q.At mgC w ∧ S.pr.At prC w ∧ S.ti.At tiC w ∧ (S.bk.As bsV w ∧ BlkAt DC S.bk.l w) ∧ By w S.se.inp.h I ∧ By w S.se.got.h G

noncomputable def advC : Code := Tryz.f8.body.getD .skip
def advTm (bk bn : Nat) (t3 t4 t5 t6 : Value) (t16 t17 : SV) : List SV := [.v (.pointer (some ⟨bk, 0, none⟩)), .any, .v (.pointer (some ⟨bn, 0, none⟩)), SV.v t3, .v t4, .v t5, .v t6] ++ List.replicate 9 .any ++ [t16, t17] ++ List.replicate 157 .any
noncomputable def advEnd (Rel : Value → Fx → Prop) : Exit → KT := kEnd tab Tryz.f8.results.toList (pureFin Rel)
def advK (bk bs : Nat) : Nat × Row := (bk, Row.c [.pointer (some ⟨bs, 0, none⟩)])
def AdvAt (rows0 : List (Nat × Row)) (w0 : World) (av : Nat → Prop) (Rel : Value → Fx → Prop) (k : Nat) (bk bs bn : Nat) (t3 t4 t5 t6 : Value) (t16 t17 : SV) (S : Sta) (rs : List (Nat × Row)) (D : World → Prop) : Prop :=
 XStop Tryz.prog w0 (fun b _ => IsIn rows0 b) av (cTail k advC) (advTm bk bn t3 t4 t5 t6 t16 t17) [] [] ⟨D, [advK bk bs] ++ [(bn, Row.c (staC S))] ++ rs⟩ (advEnd Rel)

section
variable {rows0 : List (Nat × Row)} {w0 : World} {av : Nat → Prop} {Rel : Value → Fx → Prop} {bk bs bn : Nat} {t3 t4 t5 t6 v16 v17 : Value} {S : Sta} {rs : List (Nat × Row)} {D : World → Prop}

/-- The new state is the kernel's. -/
theorem adv18 (hR : Rel (.tuple ⟨[]⟩) ⟨fun w => D w ∧ RowAt w (some ⟨bn, 0, none⟩) (staC S), [advK bk bn] ++ rs⟩) : AdvAt rows0 w0 av Rel 18 bk bs bn t3 t4 t5 t6 (.v v16) (.v v17) S rs D := by
 unfold AdvAt
 refine XStop.of_xc tabOk ?_
 conv => whnf
 repeat (first | (refine XSame.of ?_; conv => whnf) | (refine XDep.all _ _ _ _ ?_; conv => whnf))
 refine XUnit.ent (F' := ⟨D, [] ++ [(bk, Row.c [.pointer (some ⟨bs, 0, none⟩)])] ++ ([(bn, Row.c (staC S))] ++ rs)⟩) (Ent.of_le ⟨by simp [advK], fun w hw => hw⟩) ?_
 refine XUnit.storeTo tabOk rfl (b := bk) (k := 0) (X := [.pointer (some ⟨bn, 0, none⟩)]) rfl rfl (List.all_eq_true.1 (by rfl)) (Nat.le_refl _) rfl ?_
 conv => whnf
 repeat (first | (refine XSame.of ?_; conv => whnf) | (refine XDep.all _ _ _ _ ?_; conv => whnf))
 refine ⟨_, ?_, hR⟩
 exact Ent.trans (Ent.perm (by simpa [advK] using List.Perm.swap _ _ _)) (Ent.trans Ent.share1 (Ent.of_le ⟨by simp [advK], fun w hw => hw⟩))

theorem adv17n (d : Hd) (m : Nat) (hm : m = 0) (ht : v17 = d.v m) (hN : AdvAt rows0 w0 av Rel 18 bk bs bn t3 t4 t5 t6 (.v v16) (.v v17) S rs D) : AdvAt rows0 w0 av Rel 17 bk bs bn t3 t4 t5 t6 (.v v16) (.v v17) S rs D := by
 subst ht
 unfold AdvAt
 refine XStop.cutN tabOk 1 (ι := Unit) (fun _ => True) (fun _ => advTm bk bn t3 t4 t5 t6 (.v v16) (.v (d.v m))) (fun _ => []) (fun _ => ⟨D, [advK bk bs] ++ [(bn, Row.c (staC S))] ++ rs⟩) ?_ ?_
 · conv => whnf
   repeat (first | (refine XSame.of ?_; conv => whnf) | (refine XDep.all _ _ _ _ ?_; conv => whnf))
   refine XStop.once tabOk ?_
   conv => whnf
   repeat (first | (refine XSame.of ?_; conv => whnf) | (refine XDep.all _ _ _ _ ?_; conv => whnf))
   refine XIf.no (by simp [iLt_eq, hm]) ?_
   conv => whnf
   repeat (first | (refine XSame.of ?_; conv => whnf) | (refine XDep.all _ _ _ _ ?_; conv => whnf))
   refine ⟨(), trivial, [], ⟨by decide, by simp, rfl⟩, ?_, Ent.refl _⟩
   repeat (first | exact FLe.nil | refine FLe.any ?_ | refine FLe.cons ?_)
 · intro _ _ bs' hbs'
   obtain rfl := List.eq_nil_of_length_eq_zero hbs'
   rw [cTail_add]
   exact hN

def alM (now : Int) : Mg := ⟨0, 1, 4, 1, 1, now, 0, 0, default⟩
def alP : Pr := ⟨0, 1, 1⟩
/-- The timer that goes off is told to its owner. -/
theorem adv17d (d : Hd) (m : Nat) (hm : m = 1) (hd : d.Ok m) (ht : v17 = d.v m) (hq : S.q.l = []) (hqo : S.q.h.Ok 0) (hp : S.pr.l = []) (hpo : S.pr.h.Ok 0) (hDt : ∀ w, D w → RowAt w d.a (tiC ⟨1, 1, 64⟩))
 (hN : ∀ hq' hp' : Hd, hq'.Ok 1 → hp'.Ok 1 → AdvAt rows0 w0 av Rel 18 bk bs bn t3 t4 t5 t6 (.v v16) (.v v17) (S.po ⟨hq', [alM S.now]⟩ ⟨hp', [alP]⟩) rs (fun w => D w ∧ (RowAt w hq'.a (mgC (alM S.now)) ∧ RowAt w hp'.a (prC alP)))) : AdvAt rows0 w0 av Rel 17 bk bs bn t3 t4 t5 t6 (.v v16) (.v v17) S rs D := by
 subst ht
 obtain ⟨e, he⟩ : ∃ e : Int, e = 0 := ⟨_, rfl⟩
 have h1 := ksend_spec S bn (by rw [hq]; intro x hx; cases hx) (by rw [hq]; exact hqo) (by rw [hq]; decide) (by rw [hp]; exact hpo) (by rw [hp]; decide) (by rw [hq, hp]; kernel_rfl) 0 1 4 0 1 S.now 0 0 (by decide) (by decide) (by rw [hp]; kernel_rfl) (by rw [hp]; intro j hj; cases hj) e he
 rw [hq, hp] at h1
 have hg := gt_ck S
 have hg0 : (staC S)[365]? = some (.int .i64 S.now) := get_now S
 have hpre : ∀ w, D w → RowAt w S.q.h.a (([] : List Mg).flatMap mgC) ∧ RowAt w S.pr.h.a (([] : List Pr).flatMap prC) := fun w _ => ⟨RowAt.none' _, RowAt.none' _⟩
 obtain ⟨now, hnow⟩ : ∃ x, S.now = x := ⟨_, rfl⟩
 rw [hnow] at h1 hg0 hN
 unfold AdvAt
 refine XStop.cutN tabOk 1 (ι := Hd × Hd) (fun x => x.1.Ok 1 ∧ x.2.Ok 1) (fun x => advTm bk bn t3 t4 t5 t6 (.v v16) (.v (d.v m))) (fun _ => []) (fun x => ⟨fun w => D w ∧ (RowAt w x.1.a (mgC (alM now)) ∧ RowAt w x.2.a (prC alP)), [advK bk bs] ++ [(bn, Row.c (staC (S.po ⟨x.1, [alM now]⟩ ⟨x.2, [alP]⟩)))] ++ rs⟩) ?_ ?_
 · obtain ⟨X, hX⟩ : ∃ X, staC S = X := ⟨_, rfl⟩
   rw [hX] at h1 hg0 ⊢
   conv => whnf
   repeat (first | (refine XSame.of ?_; conv => whnf) | (refine XDep.all _ _ _ _ ?_; conv => whnf))
   refine XStop.rounds tabOk 2 ?_
   conv => whnf
   repeat (first | (refine XSame.of ?_; conv => whnf) | (refine XDep.all _ _ _ _ ?_; conv => whnf))
   refine XIf.yes (by simp [iLt_eq]; omega) ?_
   conv => whnf
   repeat (first | (refine XSame.of ?_; conv => whnf) | (refine XDep.all _ _ _ _ ?_; conv => whnf))
   refine XVal.of_read (XRead.index tabOk rfl rfl rfl (by omega) (by omega) (fun h0 => hd.nil h0) fun ad had => ?_)
   conv => whnf
   repeat (first | (refine XSame.of ?_; conv => whnf) | (refine XDep.all _ _ _ _ ?_; conv => whnf))
   refine XVal.of_read (XRead.loads tabOk (t := 98) rfl rfl (ad := ad) (k := 0) (L := tiC ⟨1, 1, 64⟩) (m := tiC ⟨1, 1, 64⟩) (.fact fun w hw => had ▸ hDt w hw) rfl rfl rfl ?_)
   refine fin_of (by simp) ?_
   dsimp only [List.set_cons_succ, List.set_cons_zero, List.length_cons, List.length_nil, List.cons_append, List.nil_append, Nat.zero_add, Nat.reduceAdd]
   refine xops_allocS (z := [.int .i64 0, .int .i64 0, .int .i64 0]) rfl rfl rfl (by simp) fun b3 => ?_
   dsimp only [List.set_cons_succ, List.set_cons_zero, List.length_cons, List.length_nil, List.cons_append, List.nil_append, Nat.zero_add, Nat.reduceAdd]
   conv => whnf
   repeat (first | (refine XSame.of ?_; conv => whnf) | (refine XDep.all _ _ _ _ ?_; conv => whnf))
   refine XVal.of_read (XRead.loadF tabOk rfl rfl (ad := ⟨bn, 0, none⟩) (k := 365) (L := X) (v := .int .i64 now) (Sees.row (by simp)) (fun _ => rfl) hg0 ?_)
   conv => whnf
   repeat (first | (refine XSame.of ?_; conv => whnf) | (refine XDep.all _ _ _ _ ?_; conv => whnf))
   refine XCall.rows (r1 := [advK bk bs]) (r2 := rs) h1 hpre (fun v F' hv => ?_)
   obtain ⟨hq', hp', ⟨hqo', hpo'⟩, rfl, rfl⟩ := hv
   conv => whnf
   repeat (first | (refine XSame.of ?_; conv => whnf) | (refine XDep.all _ _ _ _ ?_; conv => whnf))
   refine XIf.no (by rw [wrap_i64 (by omega)]; simp [iLt_eq]; omega) ?_
   conv => whnf
   repeat (first | (refine XSame.of ?_; conv => whnf) | (refine XDep.all _ _ _ _ ?_; conv => whnf))
   refine ⟨(hq', hp'), ⟨hqo', hpo'⟩, [], ⟨by decide, by simp, rfl⟩, ?_, Ent.refl _⟩
   repeat (first | exact FLe.nil | refine FLe.any ?_ | refine FLe.cons ?_)
 · intro x hx bs' hbs'
   obtain rfl := List.eq_nil_of_length_eq_zero hbs'
   rw [cTail_add]
   exact hN x.1 x.2 hx.1 hx.2

/-- The timers that are left are stored. -/
theorem adv16 (k : Hd) (l : List Ti) (ht : v16 = k.v l.length) (hN : AdvAt rows0 w0 av Rel 17 bk bs bn t3 t4 t5 t6 (.v v16) (.v v17) { S with ti := ⟨k, l⟩ } rs D) : AdvAt rows0 w0 av Rel 16 bk bs bn t3 t4 t5 t6 (.v v16) (.v v17) S rs D := by
 subst ht
 have hp := pt_ti S ⟨k, l⟩
 have hp : laid (staC S) 272 [k.v l.length] = staC { S with ti := ⟨k, l⟩ } := hp
 have hlen := staC_len S
 unfold AdvAt
 refine XStop.cutN tabOk 1 (ι := Unit) (fun _ => True) (fun _ => advTm bk bn t3 t4 t5 t6 (.v (k.v l.length)) (.v v17)) (fun _ => []) (fun _ => ⟨D, [advK bk bs] ++ [(bn, Row.c (staC { S with ti := ⟨k, l⟩ }))] ++ rs⟩) ?_ ?_
 · obtain ⟨X, hX⟩ : ∃ X, staC S = X := ⟨_, rfl⟩
   rw [hX] at hp hlen ⊢
   conv => whnf
   repeat (first | (refine XSame.of ?_; conv => whnf) | (refine XDep.all _ _ _ _ ?_; conv => whnf))
   refine XUnit.storeTo tabOk rfl (b := bn) (k := 272) (X := staC { S with ti := ⟨k, l⟩ }) rfl rfl (List.all_eq_true.1 (by rfl)) (by rw [hlen]; decide) hp ?_
   conv => whnf
   repeat (first | (refine XSame.of ?_; conv => whnf) | (refine XDep.all _ _ _ _ ?_; conv => whnf))
   refine ⟨(), trivial, [], ⟨by decide, by simp, rfl⟩, ?_, Ent.refl _⟩
   repeat (first | exact FLe.nil | refine FLe.any ?_ | refine FLe.cons ?_)
 · intro _ _ bs' hbs'
   obtain rfl := List.eq_nil_of_length_eq_zero hbs'
   rw [cTail_add]
   exact hN

/-- No interrupt is pending. -/
theorem adv14 (hM : S.M = fun _ => false) (hpe : S.pe = default) (hN : AdvAt rows0 w0 av Rel 15 bk bs bn t3 t4 t5 t6 .any .any S rs D) : AdvAt rows0 w0 av Rel 14 bk bs bn t3 t4 t5 t6 .any .any S rs D := by
 have hg := gt_iq S
 rw [hM, hpe] at hg
 have h1 := interrupts_nil (staC S) hg bn
 unfold AdvAt
 refine XStop.cutN tabOk 1 (ι := Unit) (fun _ => True) (fun _ => advTm bk bn t3 t4 t5 t6 .any .any) (fun _ => []) (fun _ => ⟨D, [advK bk bs] ++ [(bn, Row.c (staC S))] ++ rs⟩) ?_ ?_
 · obtain ⟨X, hX⟩ : ∃ X, staC S = X := ⟨_, rfl⟩
   rw [hX] at h1 ⊢
   conv => whnf
   repeat (first | (refine XSame.of ?_; conv => whnf) | (refine XDep.all _ _ _ _ ?_; conv => whnf))
   refine XCall.look h1 (Loc.row _ _) (fun w hst => (Sees.row (b := bn) (by simp)) w hst) ?_
   conv => whnf
   repeat (first | (refine XSame.of ?_; conv => whnf) | (refine XDep.all _ _ _ _ ?_; conv => whnf))
   refine ⟨(), trivial, [], ⟨by decide, by simp, rfl⟩, ?_, Ent.refl _⟩
   repeat (first | exact FLe.nil | refine FLe.any ?_ | refine FLe.cons ?_)
 · intro _ _ bs' hbs'
   obtain rfl := List.eq_nil_of_length_eq_zero hbs'
   rw [cTail_add]
   exact hN

theorem adv13n (d : Hd) (m : Nat) (hm : m = 0) (ht : t5 = d.v m) (hN : AdvAt rows0 w0 av Rel 14 bk bs bn t3 t4 t5 t6 .any .any S rs D) : AdvAt rows0 w0 av Rel 13 bk bs bn t3 t4 t5 t6 .any .any S rs D := by
 subst ht
 unfold AdvAt
 refine XStop.cutN tabOk 1 (ι := Unit) (fun _ => True) (fun _ => advTm bk bn t3 t4 (d.v m) t6 .any .any) (fun _ => []) (fun _ => ⟨D, [advK bk bs] ++ [(bn, Row.c (staC S))] ++ rs⟩) ?_ ?_
 · conv => whnf
   repeat (first | (refine XSame.of ?_; conv => whnf) | (refine XDep.all _ _ _ _ ?_; conv => whnf))
   refine XStop.once tabOk ?_
   conv => whnf
   repeat (first | (refine XSame.of ?_; conv => whnf) | (refine XDep.all _ _ _ _ ?_; conv => whnf))
   refine XIf.no (by simp [iLt_eq, hm]) ?_
   conv => whnf
   repeat (first | (refine XSame.of ?_; conv => whnf) | (refine XDep.all _ _ _ _ ?_; conv => whnf))
   refine ⟨(), trivial, [], ⟨by decide, by simp, rfl⟩, ?_, Ent.refl _⟩
   repeat (first | exact FLe.nil | refine FLe.any ?_ | refine FLe.cons ?_)
 · intro _ _ bs' hbs'
   obtain rfl := List.eq_nil_of_length_eq_zero hbs'
   rw [cTail_add]
   exact hN

theorem adv12n (d : Hd) (m : Nat) (hm : m = 0) (ht : t4 = d.v m) (hN : AdvAt rows0 w0 av Rel 13 bk bs bn t3 t4 t5 t6 .any .any S rs D) : AdvAt rows0 w0 av Rel 12 bk bs bn t3 t4 t5 t6 .any .any S rs D := by
 subst ht
 unfold AdvAt
 refine XStop.cutN tabOk 1 (ι := Unit) (fun _ => True) (fun _ => advTm bk bn t3 (d.v m) t5 t6 .any .any) (fun _ => []) (fun _ => ⟨D, [advK bk bs] ++ [(bn, Row.c (staC S))] ++ rs⟩) ?_ ?_
 · conv => whnf
   repeat (first | (refine XSame.of ?_; conv => whnf) | (refine XDep.all _ _ _ _ ?_; conv => whnf))
   refine XStop.once tabOk ?_
   conv => whnf
   repeat (first | (refine XSame.of ?_; conv => whnf) | (refine XDep.all _ _ _ _ ?_; conv => whnf))
   refine XIf.no (by simp [iLt_eq, hm]) ?_
   conv => whnf
   repeat (first | (refine XSame.of ?_; conv => whnf) | (refine XDep.all _ _ _ _ ?_; conv => whnf))
   refine ⟨(), trivial, [], ⟨by decide, by simp, rfl⟩, ?_, Ent.refl _⟩
   repeat (first | exact FLe.nil | refine FLe.any ?_ | refine FLe.cons ?_)
 · intro _ _ bs' hbs'
   obtain rfl := List.eq_nil_of_length_eq_zero hbs'
   rw [cTail_add]
   exact hN

theorem adv11n (d : Hd) (m : Nat) (hm : m = 0) (ht : t3 = d.v m) (hN : AdvAt rows0 w0 av Rel 12 bk bs bn t3 t4 t5 t6 .any .any S rs D) : AdvAt rows0 w0 av Rel 11 bk bs bn t3 t4 t5 t6 .any .any S rs D := by
 subst ht
 unfold AdvAt
 refine XStop.cutN tabOk 1 (ι := Unit) (fun _ => True) (fun _ => advTm bk bn (d.v m) t4 t5 t6 .any .any) (fun _ => []) (fun _ => ⟨D, [advK bk bs] ++ [(bn, Row.c (staC S))] ++ rs⟩) ?_ ?_
 · conv => whnf
   repeat (first | (refine XSame.of ?_; conv => whnf) | (refine XDep.all _ _ _ _ ?_; conv => whnf))
   refine XStop.once tabOk ?_
   conv => whnf
   repeat (first | (refine XSame.of ?_; conv => whnf) | (refine XDep.all _ _ _ _ ?_; conv => whnf))
   refine XIf.no (by simp [iLt_eq, hm]) ?_
   conv => whnf
   repeat (first | (refine XSame.of ?_; conv => whnf) | (refine XDep.all _ _ _ _ ?_; conv => whnf))
   refine ⟨(), trivial, [], ⟨by decide, by simp, rfl⟩, ?_, Ent.refl _⟩
   repeat (first | exact FLe.nil | refine FLe.any ?_ | refine FLe.cons ?_)
 · intro _ _ bs' hbs'
   obtain rfl := List.eq_nil_of_length_eq_zero hbs'
   rw [cTail_add]
   exact hN

theorem adv10n (d : Hd) (m : Nat) (hm : m = 0) (ht : t6 = d.v m) (hN : AdvAt rows0 w0 av Rel 11 bk bs bn t3 t4 t5 t6 .any .any S rs D) : AdvAt rows0 w0 av Rel 10 bk bs bn t3 t4 t5 t6 .any .any S rs D := by
 subst ht
 unfold AdvAt
 refine XStop.cutN tabOk 1 (ι := Unit) (fun _ => True) (fun _ => advTm bk bn t3 t4 t5 (d.v m) .any .any) (fun _ => []) (fun _ => ⟨D, [advK bk bs] ++ [(bn, Row.c (staC S))] ++ rs⟩) ?_ ?_
 · conv => whnf
   repeat (first | (refine XSame.of ?_; conv => whnf) | (refine XDep.all _ _ _ _ ?_; conv => whnf))
   refine XStop.once tabOk ?_
   conv => whnf
   repeat (first | (refine XSame.of ?_; conv => whnf) | (refine XDep.all _ _ _ _ ?_; conv => whnf))
   refine XIf.no (by simp [iLt_eq, hm]) ?_
   conv => whnf
   repeat (first | (refine XSame.of ?_; conv => whnf) | (refine XDep.all _ _ _ _ ?_; conv => whnf))
   refine ⟨(), trivial, [], ⟨by decide, by simp, rfl⟩, ?_, Ent.refl _⟩
   repeat (first | exact FLe.nil | refine FLe.any ?_ | refine FLe.cons ?_)
 · intro _ _ bs' hbs'
   obtain rfl := List.eq_nil_of_length_eq_zero hbs'
   rw [cTail_add]
   exact hN

end

end Go.Proofs.YtakammghcodmgaaGreatDoor
namespace Go.Proofs.YtakammghcodmgaaGreatDoor
open Go Go.Sx
set_option maxRecDepth 100000
set_option maxHeartbeats 4000000
set_option linter.unusedVariables false
set_option linter.unusedSimpArgs false

def RelStZ (z : Nat) (hi : Hd) (I : List UInt8) (G : List UInt8) (r : Nat × Nat × List UInt8) (v : Value) (F : Fx) : Prop :=
 ∃ hg' k : Hd, hg'.Ok (G ++ r.2.2).length ∧ k.Ok r.2.2.length ∧ v = .tuple ⟨[.agg ⟨serC (serI hi I r.1 r.2.1 hg' (G ++ r.2.2))⟩, Hd.nil.v z, k.v r.2.2.length]⟩ ∧ F = ⟨fun w => By w hg' (G ++ r.2.2) ∧ By w k r.2.2, []⟩

section
variable {rows0 : List (Nat × Row)} {w0 : World} {av : Nat → Prop} {Rel : Value → Fx → Prop} {bk bs bn : Nat} {t3 t4 t5 t6 v16 v17 : Value} {S : Sta} {rs : List (Nat × Row)} {D : World → Prop}

/-- No timer is there. -/
theorem adv15n (m : Nat) (hm : m = 0) (hti : S.ti.l = []) (hh : S.ti.h.Ok S.ti.l.length) (hN : ∀ k : Hd, k.Ok 0 → AdvAt rows0 w0 av Rel 16 bk bs bn t3 t4 t5 t6 (.v (k.v 0)) (.v (Hd.nil.v m)) S rs D) : AdvAt rows0 w0 av Rel 15 bk bs bn t3 t4 t5 t6 .any .any S rs D := by
 have h1 : PureSpec Tryz.prog 34 [S.ti.v, .int .i64 S.now] (fun w => True) (fun v F => ∃ k : Hd, k.Ok 0 ∧ v = .tuple ⟨[k.v 0, Hd.nil.v m]⟩) := by
  subst hm
  exact expire_none S.ti.h S.ti.l.length (by rw [hti]; rfl) hh S.now
 have hg := gt_ti S
 have hg0 : (staC S)[365]? = some (.int .i64 S.now) := get_now S
 unfold AdvAt
 refine XStop.cutN tabOk 1 (ι := Hd) (fun k => k.Ok 0) (fun k => advTm bk bn t3 t4 t5 t6 (.v (k.v 0)) (.v (Hd.nil.v m))) (fun _ => []) (fun _ => ⟨D, [advK bk bs] ++ [(bn, Row.c (staC S))] ++ rs⟩) ?_ ?_
 · obtain ⟨X, hX⟩ : ∃ X, staC S = X := ⟨_, rfl⟩
   rw [hX] at hg hg0 ⊢
   conv => whnf
   repeat (first | (refine XSame.of ?_; conv => whnf) | (refine XDep.all _ _ _ _ ?_; conv => whnf))
   refine XVal.of_read (XRead.loadF tabOk rfl rfl (ad := ⟨bn, 0, none⟩) (k := 272) (L := X) (v := S.ti.v) (Sees.row (by simp)) (fun _ => rfl) hg ?_)
   conv => whnf
   repeat (first | (refine XSame.of ?_; conv => whnf) | (refine XDep.all _ _ _ _ ?_; conv => whnf))
   refine XVal.of_read (XRead.loadF tabOk rfl rfl (ad := ⟨bn, 0, none⟩) (k := 365) (L := X) (v := .int .i64 S.now) (Sees.row (by simp)) (fun _ => rfl) hg0 ?_)
   conv => whnf
   repeat (first | (refine XSame.of ?_; conv => whnf) | (refine XDep.all _ _ _ _ ?_; conv => whnf))
   refine XCall.pure h1 (fun w hw => trivial) (fun v F hv => ?_)
   obtain ⟨k, hk, rfl⟩ := hv
   conv => whnf
   repeat (first | (refine XSame.of ?_; conv => whnf) | (refine XDep.all _ _ _ _ ?_; conv => whnf))
   refine ⟨k, hk, [], ⟨by decide, by simp, rfl⟩, ?_, Ent.of_le ⟨by simp [Fx.and], fun w hw => hw.1⟩⟩
   repeat (first | exact FLe.nil | refine FLe.any ?_ | refine FLe.cons ?_)
 · intro k hk bs' hbs'
   obtain rfl := List.eq_nil_of_length_eq_zero hbs'
   rw [cTail_add]
   exact hN k hk

/-- The timer is kept. -/
theorem adv15k (m : Nat) (hm : m = 0) (hti : S.ti.l = ti0) (hh : S.ti.h.Ok S.ti.l.length) (hnow : S.now < 64) (hD : ∀ w, D w → S.ti.At tiC w)
 (hN : ∀ k : Hd, k.Ok 1 → AdvAt rows0 w0 av Rel 16 bk bs bn t3 t4 t5 t6 (.v (k.v 1)) (.v (Hd.nil.v m)) S rs (fun w => D w ∧ RowAt w k.a (tiC ⟨1, 1, 64⟩))) : AdvAt rows0 w0 av Rel 15 bk bs bn t3 t4 t5 t6 .any .any S rs D := by
 have h1 : PureSpec Tryz.prog 34 [S.ti.v, .int .i64 S.now] (fun w => RowAt w S.ti.h.a (tiC ⟨1, 1, 64⟩)) (fun v F => ∃ k : Hd, k.Ok 1 ∧ v = .tuple ⟨[k.v 1, Hd.nil.v m]⟩ ∧ F = ⟨fun w => RowAt w k.a (tiC ⟨1, 1, 64⟩), []⟩) := by
  subst hm
  exact expire_keep ⟨1, 1, 64⟩ S.ti.h S.ti.l.length (by rw [hti]; rfl) hh S.now hnow
 have hpre : ∀ w, D w → RowAt w S.ti.h.a (tiC ⟨1, 1, 64⟩) := fun w hw => by
  have h := hD w hw
  unfold Sl.At at h
  rw [hti] at h
  exact h
 have hg := gt_ti S
 have hg0 : (staC S)[365]? = some (.int .i64 S.now) := get_now S
 unfold AdvAt
 refine XStop.cutN tabOk 1 (ι := Hd) (fun k => k.Ok 1) (fun k => advTm bk bn t3 t4 t5 t6 (.v (k.v 1)) (.v (Hd.nil.v m))) (fun _ => []) (fun k => ⟨fun w => D w ∧ RowAt w k.a (tiC ⟨1, 1, 64⟩), [advK bk bs] ++ [(bn, Row.c (staC S))] ++ rs⟩) ?_ ?_
 · obtain ⟨X, hX⟩ : ∃ X, staC S = X := ⟨_, rfl⟩
   rw [hX] at hg hg0 ⊢
   conv => whnf
   repeat (first | (refine XSame.of ?_; conv => whnf) | (refine XDep.all _ _ _ _ ?_; conv => whnf))
   refine XVal.of_read (XRead.loadF tabOk rfl rfl (ad := ⟨bn, 0, none⟩) (k := 272) (L := X) (v := S.ti.v) (Sees.row (by simp)) (fun _ => rfl) hg ?_)
   conv => whnf
   repeat (first | (refine XSame.of ?_; conv => whnf) | (refine XDep.all _ _ _ _ ?_; conv => whnf))
   refine XVal.of_read (XRead.loadF tabOk rfl rfl (ad := ⟨bn, 0, none⟩) (k := 365) (L := X) (v := .int .i64 S.now) (Sees.row (by simp)) (fun _ => rfl) hg0 ?_)
   conv => whnf
   repeat (first | (refine XSame.of ?_; conv => whnf) | (refine XDep.all _ _ _ _ ?_; conv => whnf))
   refine XCall.pure h1 hpre (fun v F hv => ?_)
   obtain ⟨k, hk, rfl, rfl⟩ := hv
   conv => whnf
   repeat (first | (refine XSame.of ?_; conv => whnf) | (refine XDep.all _ _ _ _ ?_; conv => whnf))
   refine ⟨k, hk, [], ⟨by decide, by simp, rfl⟩, ?_, Ent.of_le ⟨by simp [Fx.and], fun w hw => hw⟩⟩
   repeat (first | exact FLe.nil | refine FLe.any ?_ | refine FLe.cons ?_)
 · intro k hk bs' hbs'
   obtain rfl := List.eq_nil_of_length_eq_zero hbs'
   rw [cTail_add]
   exact hN k hk

/-- The timer goes off. -/
theorem adv15d (m : Nat) (hm : m = 1) (hti : S.ti.l = ti0) (hh : S.ti.h.Ok S.ti.l.length) (hnow : 64 ≤ S.now) (hD : ∀ w, D w → S.ti.At tiC w)
 (hN : ∀ k d : Hd, k.Ok 0 → d.Ok m → AdvAt rows0 w0 av Rel 16 bk bs bn t3 t4 t5 t6 (.v (k.v 0)) (.v (d.v m)) S rs (fun w => D w ∧ RowAt w d.a (tiC ⟨1, 1, 64⟩))) : AdvAt rows0 w0 av Rel 15 bk bs bn t3 t4 t5 t6 .any .any S rs D := by
 have h1 : PureSpec Tryz.prog 34 [S.ti.v, .int .i64 S.now] (fun w => RowAt w S.ti.h.a (tiC ⟨1, 1, 64⟩)) (fun v F => ∃ k d : Hd, k.Ok 0 ∧ d.Ok m ∧ v = .tuple ⟨[k.v 0, d.v m]⟩ ∧ F = ⟨fun w => RowAt w d.a (tiC ⟨1, 1, 64⟩), []⟩) := by
  subst hm
  exact expire_due ⟨1, 1, 64⟩ S.ti.h S.ti.l.length (by rw [hti]; rfl) hh S.now hnow
 have hpre : ∀ w, D w → RowAt w S.ti.h.a (tiC ⟨1, 1, 64⟩) := fun w hw => by
  have h := hD w hw
  unfold Sl.At at h
  rw [hti] at h
  exact h
 have hg := gt_ti S
 have hg0 : (staC S)[365]? = some (.int .i64 S.now) := get_now S
 unfold AdvAt
 refine XStop.cutN tabOk 1 (ι := Hd × Hd) (fun k => k.1.Ok 0 ∧ k.2.Ok m) (fun k => advTm bk bn t3 t4 t5 t6 (.v (k.1.v 0)) (.v (k.2.v m))) (fun _ => []) (fun k => ⟨fun w => D w ∧ RowAt w k.2.a (tiC ⟨1, 1, 64⟩), [advK bk bs] ++ [(bn, Row.c (staC S))] ++ rs⟩) ?_ ?_
 · obtain ⟨X, hX⟩ : ∃ X, staC S = X := ⟨_, rfl⟩
   rw [hX] at hg hg0 ⊢
   conv => whnf
   repeat (first | (refine XSame.of ?_; conv => whnf) | (refine XDep.all _ _ _ _ ?_; conv => whnf))
   refine XVal.of_read (XRead.loadF tabOk rfl rfl (ad := ⟨bn, 0, none⟩) (k := 272) (L := X) (v := S.ti.v) (Sees.row (by simp)) (fun _ => rfl) hg ?_)
   conv => whnf
   repeat (first | (refine XSame.of ?_; conv => whnf) | (refine XDep.all _ _ _ _ ?_; conv => whnf))
   refine XVal.of_read (XRead.loadF tabOk rfl rfl (ad := ⟨bn, 0, none⟩) (k := 365) (L := X) (v := .int .i64 S.now) (Sees.row (by simp)) (fun _ => rfl) hg0 ?_)
   conv => whnf
   repeat (first | (refine XSame.of ?_; conv => whnf) | (refine XDep.all _ _ _ _ ?_; conv => whnf))
   refine XCall.pure h1 hpre (fun v F hv => ?_)
   obtain ⟨k, d, hk, hd, rfl, rfl⟩ := hv
   conv => whnf
   repeat (first | (refine XSame.of ?_; conv => whnf) | (refine XDep.all _ _ _ _ ?_; conv => whnf))
   refine ⟨(k, d), ⟨hk, hd⟩, [], ⟨by decide, by simp, rfl⟩, ?_, Ent.of_le ⟨by simp [Fx.and], fun w hw => hw⟩⟩
   repeat (first | exact FLe.nil | refine FLe.any ?_ | refine FLe.cons ?_)
 · intro k hk bs' hbs'
   obtain rfl := List.eq_nil_of_length_eq_zero hbs'
   rw [cTail_add]
   exact hN k.1 k.2 hk.1 hk.2

def inE (c : UInt8) : En := ⟨7, 0, 0, 0, 0, 0, (c.toNat : Int), default⟩
/-- A byte that arrives is noted. -/
theorem adv10d (k : Hd) (m : Nat) (hm : m = 1) (hk : k.Ok m) (ht : t6 = k.v m) (c : UInt8) (hD : ∀ w, D w → By w k [c]) (a : Option Addr) (cap : Nat) (C : List Value) (hO : Sx.Owg 8 S.rc.l.length a cap C (S.rc.l.flatMap enC)) (hrc : S.rc.h = ⟨a, cap⟩) (hl : S.rc.l.length ≤ 100000000)
 (hN : ∀ (a' : Option Addr) (cap' : Nat) (C' : List Value), Sx.Owg 8 (S.rc.l.length + 1) a' cap' C' ((S.rc.l ++ [inE c]).flatMap enC) → AdvAt rows0 w0 av Rel 11 bk bs bn t3 t4 t5 t6 .any .any (S.rec' ⟨⟨a', cap'⟩, S.rc.l ++ [inE c]⟩) (orow a' C') D) : AdvAt rows0 w0 av Rel 10 bk bs bn t3 t4 t5 t6 .any .any S (orow a C) D := by
 subst ht
 have h1 := note_spec S bn 7 0 0 0 0 0 (c.toNat : Int) a cap C hO hrc hl
 have hlt := c.toNat_lt
 unfold AdvAt
 refine XStop.cutN tabOk 1 (ι := Option Addr × Nat × List Value) (fun x => Sx.Owg 8 (S.rc.l.length + 1) x.1 x.2.1 x.2.2 ((S.rc.l ++ [inE c]).flatMap enC)) (fun _ => advTm bk bn t3 t4 t5 (k.v m) .any .any) (fun _ => []) (fun x => ⟨D, [advK bk bs] ++ [(bn, Row.c (staC (S.rec' ⟨⟨x.1, x.2.1⟩, S.rc.l ++ [inE c]⟩)))] ++ orow x.1 x.2.2⟩) ?_ ?_
 · have hine : (⟨7, 0, 0, 0, 0, 0, (c.toNat : Int), default⟩ : En) = inE c := rfl
   rw [hine] at h1
   obtain ⟨X, hX⟩ : ∃ X, staC S = X := ⟨_, rfl⟩
   rw [hX] at h1 ⊢
   conv => whnf
   repeat (first | (refine XSame.of ?_; conv => whnf) | (refine XDep.all _ _ _ _ ?_; conv => whnf))
   refine XStop.rounds tabOk 2 ?_
   conv => whnf
   repeat (first | (refine XSame.of ?_; conv => whnf) | (refine XDep.all _ _ _ _ ?_; conv => whnf))
   refine XIf.yes (by simp [iLt_eq]; omega) ?_
   conv => whnf
   repeat (first | (refine XSame.of ?_; conv => whnf) | (refine XDep.all _ _ _ _ ?_; conv => whnf))
   refine XVal.of_read (XRead.index tabOk rfl rfl rfl (by omega) (by omega) (fun h0 => hk.nil h0) fun ad had => ?_)
   conv => whnf
   repeat (first | (refine XSame.of ?_; conv => whnf) | (refine XDep.all _ _ _ _ ?_; conv => whnf))
   refine XVal.of_read (XRead.loadF tabOk rfl rfl (ad := ad) (k := 0) (L := [byteV c]) (v := byteV c) (.fact fun w hw => had ▸ hD w hw) (fun _ => rfl) rfl ?_)
   conv => whnf
   repeat (first | (refine XSame.of ?_; conv => whnf) | (refine XDep.all _ _ _ _ ?_; conv => whnf))
   rw [wrap_i64 (by omega)]
   refine XCall.ent (F' := ⟨D, [advK bk bs] ++ ([(bn, Row.c X)] ++ orow a C) ++ []⟩) (Ent.of_le ⟨by simp, fun w hw => hw⟩) ?_
   refine XCall.rows (r1 := [advK bk bs]) (r2 := []) h1 (fun w hw => trivial) (fun v F' hv => ?_)
   obtain ⟨a', cap', C', hO', rfl, rfl⟩ := hv
   conv => whnf
   repeat (first | (refine XSame.of ?_; conv => whnf) | (refine XDep.all _ _ _ _ ?_; conv => whnf))
   refine XIf.no (by rw [wrap_i64 (by omega)]; simp [iLt_eq]; omega) ?_
   conv => whnf
   repeat (first | (refine XSame.of ?_; conv => whnf) | (refine XDep.all _ _ _ _ ?_; conv => whnf))
   refine ⟨(a', cap', C'), hO', [], ⟨by decide, by simp, rfl⟩, ?_, Ent.of_le ⟨by simp, fun w hw => hw.1⟩⟩
   repeat (first | exact FLe.nil | refine FLe.any ?_ | refine FLe.cons ?_)
 · intro x hx bs' hbs'
   obtain rfl := List.eq_nil_of_length_eq_zero hbs'
   rw [cTail_add]
   exact hN x.1 x.2.1 x.2.2 hx

/-- The serial line ticks. -/
theorem adv9 (z : Nat) (hz : z = 0) (hi : Hd) (I : List UInt8) (pos pa : Nat) (hg : Hd) (G : List UInt8) (hse : S.se = serI hi I pos pa hg G) (hio : hi.Ok I.length) (hI : I.length ≤ 4000) (hpos : pos ≤ I.length) (hpa : pa < 128) (hG : G.length ≤ pos) (hgo : hg.Ok G.length) (hD : ∀ w, D w → By w hi I ∧ By w hg G)
 (hN : ∀ hg' k : Hd, hg'.Ok (G ++ (arr I pos pa).2.2).length → k.Ok (arr I pos pa).2.2.length → AdvAt rows0 w0 av Rel 10 bk bs bn t3 t4 (Hd.nil.v z) (k.v (arr I pos pa).2.2.length) .any .any { S with se := serI hi I (arr I pos pa).1 (arr I pos pa).2.1 hg' (G ++ (arr I pos pa).2.2) } rs (fun w => D w ∧ (By w hg' (G ++ (arr I pos pa).2.2) ∧ By w k (arr I pos pa).2.2))) : AdvAt rows0 w0 av Rel 9 bk bs bn t3 t4 t5 t6 .any .any S rs D := by
 have h1 : PureSpec Tryz.prog 29 [.agg ⟨serC (serI hi I pos pa hg G)⟩] (fun w => By w hi I ∧ By w hg G) (RelStZ z hi I G (arr I pos pa)) := by
  subst hz
  exact serTick_idle hi I pos pa hg G hio hI hpos hpa hG hgo
 have hg0 := gt_se S
 rw [hse] at hg0
 have hput := fun hg' => pt_se S (serI hi I (arr I pos pa).1 (arr I pos pa).2.1 hg' (G ++ (arr I pos pa).2.2))
 have hlen := staC_len S
 obtain ⟨r, hr⟩ : ∃ r, arr I pos pa = r := ⟨_, rfl⟩
 rw [hr] at h1 hN hput
 unfold AdvAt
 refine XStop.cutN tabOk 1 (ι := Hd × Hd) (fun x => x.1.Ok (G ++ r.2.2).length ∧ x.2.Ok r.2.2.length) (fun x => advTm bk bn t3 t4 (Hd.nil.v z) (x.2.v r.2.2.length) .any .any) (fun _ => []) (fun x => ⟨fun w => D w ∧ (By w x.1 (G ++ r.2.2) ∧ By w x.2 r.2.2), [advK bk bs] ++ [(bn, Row.c (staC { S with se := serI hi I r.1 r.2.1 x.1 (G ++ r.2.2) }))] ++ rs⟩) ?_ ?_
 · obtain ⟨X, hX⟩ : ∃ X, staC S = X := ⟨_, rfl⟩
   rw [hX] at hg0 hput hlen ⊢
   have hL0 : (serC (serI hi I pos pa hg G)).length = 21 := rfl
   obtain ⟨L, hL⟩ : ∃ L, serC (serI hi I pos pa hg G) = L := ⟨_, rfl⟩
   rw [hL] at hg0 h1 hL0
   conv => whnf
   repeat (first | (refine XSame.of ?_; conv => whnf) | (refine XDep.all _ _ _ _ ?_; conv => whnf))
   refine XVal.of_read (XRead.loads tabOk rfl rfl (ad := ⟨bn, 0, none⟩) (k := 344) (L := X) (m := L) (Sees.row (by simp)) rfl hg0 hL0 ?_)
   conv => whnf
   repeat (first | (refine XSame.of ?_; conv => whnf) | (refine XDep.all _ _ _ _ ?_; conv => whnf))
   refine XCall.pure h1 hD (fun v F hv => ?_)
   obtain ⟨hg', k, hg'o, hko, rfl, rfl⟩ := hv
   have hput := hput hg'
   obtain ⟨Y, hY⟩ : ∃ Y, staC { S with se := serI hi I r.1 r.2.1 hg' (G ++ r.2.2) } = Y := ⟨_, rfl⟩
   have hM0 : (serC (serI hi I r.1 r.2.1 hg' (G ++ r.2.2))).length = 21 := rfl
   have hM1 := serI_one hi I r.1 r.2.1 hg' (G ++ r.2.2)
   obtain ⟨M, hM⟩ : ∃ M, serC (serI hi I r.1 r.2.1 hg' (G ++ r.2.2)) = M := ⟨_, rfl⟩
   rw [hM] at hput hM0 hM1 ⊢
   rw [hY] at hput
   conv => whnf
   repeat (first | (refine XSame.of ?_; conv => whnf) | (refine XDep.all _ _ _ _ ?_; conv => whnf))
   refine XUnit.ent (F' := ⟨fun w => D w ∧ (By w hg' (G ++ r.2.2) ∧ By w k r.2.2), [advK bk bs] ++ [(bn, Row.c X)] ++ rs⟩) (Ent.of_le ⟨by simp [Fx.and], fun w hw => hw⟩) ?_
   refine XUnit.storeTo tabOk rfl (b := bn) (k := 344) (X := Y) rfl (by show M.length = 21; exact hM0) (fun u hu => hM1 u hu) (by rw [hlen]; decide) hput ?_
   conv => whnf
   repeat (first | (refine XSame.of ?_; conv => whnf) | (refine XDep.all _ _ _ _ ?_; conv => whnf))
   refine ⟨(hg', k), ⟨hg'o, hko⟩, [], ⟨by decide, by simp, rfl⟩, ?_, Ent.of_le ⟨by rw [← hY]; exact List.Sublist.refl _, fun w hw => hw⟩⟩
   repeat (first | exact FLe.nil | refine FLe.any ?_ | refine FLe.cons ?_)
 · intro x hx bs' hbs'
   obtain rfl := List.eq_nil_of_length_eq_zero hbs'
   rw [cTail_add]
   exact hN x.1 x.2 hx.1 hx.2

/-- The network card ticks. -/
theorem adv8 (z : Nat) (hz : z = 0) (pat : Bs) (now : Int) (hlk : S.lk = lnkI pat now) (hp : pat.n ≤ 200) (h0 : 0 ≤ now) (h1 : now ≤ 1000000)
 (hN : AdvAt rows0 w0 av Rel 9 bk bs bn t3 (Hd.nil.v z) t5 t6 .any .any { S with lk := lnkI pat (now + 1) } rs D) : AdvAt rows0 w0 av Rel 8 bk bs bn t3 t4 t5 t6 .any .any S rs D := by
 have h1 : PureSpec Tryz.prog 28 [.agg ⟨lnkC (lnkI pat now)⟩] (fun w => True) (fun v F => v = .tuple ⟨[.agg ⟨lnkC (lnkI pat (now + 1))⟩, Hd.nil.v z]⟩) := by
  subst hz
  exact lnkTick_idle pat now hp h0 h1
 have hg0 := gt_lk S
 rw [hlk] at hg0
 have hput := pt_lk S (lnkI pat (now + 1))
 have hlen := staC_len S
 unfold AdvAt
 refine XStop.cutN tabOk 1 (ι := Unit) (fun x => True) (fun x => advTm bk bn t3 (Hd.nil.v z) t5 t6 .any .any) (fun _ => []) (fun x => ⟨D, [advK bk bs] ++ [(bn, Row.c (staC { S with lk := lnkI pat (now + 1) }))] ++ rs⟩) ?_ ?_
 · obtain ⟨X, hX⟩ : ∃ X, staC S = X := ⟨_, rfl⟩
   obtain ⟨Y, hY⟩ : ∃ Y, staC { S with lk := lnkI pat (now + 1) } = Y := ⟨_, rfl⟩
   have hL0 : (lnkC (lnkI pat now)).length = 22 := rfl
   have hM0 : (lnkC (lnkI pat (now + 1))).length = 22 := rfl
   have hM1 := lnkI_one pat (now + 1)
   obtain ⟨L, hL⟩ : ∃ L, lnkC (lnkI pat now) = L := ⟨_, rfl⟩
   obtain ⟨M, hM⟩ : ∃ M, lnkC (lnkI pat (now + 1)) = M := ⟨_, rfl⟩
   rw [hX] at hg0 hput hlen ⊢
   rw [hY] at hput
   rw [hL] at hg0 h1 hL0
   rw [hM] at hput hM0 hM1 h1
   conv => whnf
   repeat (first | (refine XSame.of ?_; conv => whnf) | (refine XDep.all _ _ _ _ ?_; conv => whnf))
   refine XVal.of_read (XRead.loads tabOk rfl rfl (ad := ⟨bn, 0, none⟩) (k := 322) (L := X) (m := L) (Sees.row (by simp)) rfl hg0 hL0 ?_)
   conv => whnf
   repeat (first | (refine XSame.of ?_; conv => whnf) | (refine XDep.all _ _ _ _ ?_; conv => whnf))
   refine XCall.val h1 (fun w hw => trivial) (fun v F hv => ?_)
   subst hv
   conv => whnf
   repeat (first | (refine XSame.of ?_; conv => whnf) | (refine XDep.all _ _ _ _ ?_; conv => whnf))
   refine XUnit.ent (F' := ⟨D, [advK bk bs] ++ [(bn, Row.c X)] ++ rs⟩) (Ent.of_le ⟨by simp, fun w hw => hw⟩) ?_
   refine XUnit.storeTo tabOk rfl (b := bn) (k := 322) (X := Y) rfl (by show M.length = 22; exact hM0) (fun u hu => hM1 u hu) (by rw [hlen]; decide) hput ?_
   conv => whnf
   repeat (first | (refine XSame.of ?_; conv => whnf) | (refine XDep.all _ _ _ _ ?_; conv => whnf))
   refine ⟨(), trivial, [], ⟨by decide, by simp, rfl⟩, ?_, Ent.of_le ⟨by rw [← hY]; exact List.Sublist.refl _, fun w hw => hw⟩⟩
   repeat (first | exact FLe.nil | refine FLe.any ?_ | refine FLe.cons ?_)
 · intro x hx bs' hbs'
   obtain rfl := List.eq_nil_of_length_eq_zero hbs'
   rw [cTail_add]
   exact hN

theorem dch0_d : dch0 false = default := rfl
/-- The disk ticks. -/
theorem adv7 (z : Nat) (hz : z = 0) (hdc : S.dc = default) (hh : S.bk.h.Ok S.bk.l.length) (hl : S.bk.l.length ≤ 100000) (hv : pagesOk 160 S.bk.l = true) (hD : ∀ w, D w → S.bk.As bsV w)
 (hN : ∀ k : Hd, k.Ok S.bk.l.length → AdvAt rows0 w0 av Rel 8 bk bs bn (Hd.nil.v z) t4 t5 t6 .any .any { S with bk := ⟨k, S.bk.l⟩ } rs (fun w => D w ∧ RowAt w k.a (S.bk.l.map bsV))) : AdvAt rows0 w0 av Rel 7 bk bs bn t3 t4 t5 t6 .any .any S rs D := by
 obtain ⟨o, ho⟩ : ∃ o : Bool, o = false := ⟨_, rfl⟩
 have hd0 : S.dc = dch0 o := by rw [hdc, ho, dch0_d]
 have h1 : PureSpec Tryz.prog 27 [.agg ⟨S.bk.v :: dchC (dch0 o)⟩] (fun w => RowAt w S.bk.h.a (S.bk.l.map bsV)) (fun v F => ∃ k : Hd, k.Ok S.bk.l.length ∧ v = .tuple ⟨[.agg ⟨k.v S.bk.l.length :: dchC (dch0 o)⟩, Hd.nil.v z]⟩ ∧ F = ⟨fun w => RowAt w k.a (S.bk.l.map bsV), []⟩) := by
  subst hz
  exact diskTick_idle S.bk.l o ho S.bk.h hh hl (by rw [hv, ho, dch0_d]; kernel_rfl)
 have hg0 := get_dk S
 rw [hd0] at hg0
 have hput := fun k => pt_dk S ⟨k, S.bk.l⟩ (dch0 o)
 have hS : ∀ y : Sl Bs, { S with bk := y, dc := dch0 o } = { S with bk := y } := fun y => by rw [← hd0]
 have hput : ∀ k : Hd, laid (staC S) 308 (k.v S.bk.l.length :: dchC (dch0 o)) = staC { S with bk := ⟨k, S.bk.l⟩ } := fun k => by
  have := hput k
  rw [hS] at this
  exact this
 have hlen := staC_len S
 obtain ⟨CH, hCH⟩ : ∃ x, dchC (dch0 o) = x := ⟨_, rfl⟩
 have hc0 : (dchC (dch0 o)).length = 9 := rfl
 have hc1 : ∀ v ∈ dchC (dch0 o), oneCell v = true := List.all_eq_true.1 rfl
 rw [hCH] at h1 hg0 hput hc0 hc1
 unfold AdvAt
 refine XStop.cutN tabOk 1 (ι := Hd) (fun k => k.Ok S.bk.l.length) (fun x => advTm bk bn (Hd.nil.v z) t4 t5 t6 .any .any) (fun _ => []) (fun k => ⟨fun w => D w ∧ RowAt w k.a (S.bk.l.map bsV), [advK bk bs] ++ [(bn, Row.c (staC { S with bk := ⟨k, S.bk.l⟩ }))] ++ rs⟩) ?_ ?_
 · obtain ⟨X, hX⟩ : ∃ X, staC S = X := ⟨_, rfl⟩
   rw [hX] at hg0 hput hlen ⊢
   conv => whnf
   repeat (first | (refine XSame.of ?_; conv => whnf) | (refine XDep.all _ _ _ _ ?_; conv => whnf))
   refine XVal.of_read (XRead.loads tabOk rfl rfl (ad := ⟨bn, 0, none⟩) (k := 308) (L := X) (m := S.bk.v :: CH) (Sees.row (by simp)) rfl hg0 (by show CH.length + 1 = 10; rw [hc0]) ?_)
   conv => whnf
   repeat (first | (refine XSame.of ?_; conv => whnf) | (refine XDep.all _ _ _ _ ?_; conv => whnf))
   refine XCall.pure h1 hD (fun v F hv => ?_)
   obtain ⟨k, hk, rfl, rfl⟩ := hv
   have hput := hput k
   obtain ⟨Y, hY⟩ : ∃ Y, staC { S with bk := ⟨k, S.bk.l⟩ } = Y := ⟨_, rfl⟩
   rw [hY] at hput
   conv => whnf
   repeat (first | (refine XSame.of ?_; conv => whnf) | (refine XDep.all _ _ _ _ ?_; conv => whnf))
   refine XUnit.ent (F' := ⟨fun w => D w ∧ RowAt w k.a (S.bk.l.map bsV), [advK bk bs] ++ [(bn, Row.c X)] ++ rs⟩) (Ent.of_le ⟨by simp [Fx.and], fun w hw => hw⟩) ?_
   refine XUnit.storeTo tabOk rfl (b := bn) (k := 308) (X := Y) rfl (by show CH.length + 1 = 10; rw [hc0]) (fun u hu => by
    have hu : u ∈ k.v S.bk.l.length :: CH := hu
    rcases List.mem_cons.1 hu with h | h
    · rw [h]; rfl
    · exact hc1 u h) (by rw [hlen]; decide) hput ?_
   conv => whnf
   repeat (first | (refine XSame.of ?_; conv => whnf) | (refine XDep.all _ _ _ _ ?_; conv => whnf))
   refine ⟨k, hk, [], ⟨by decide, by simp, rfl⟩, ?_, Ent.of_le ⟨by rw [← hY]; exact List.Sublist.refl _, fun w hw => hw⟩⟩
   repeat (first | exact FLe.nil | refine FLe.any ?_ | refine FLe.cons ?_)
 · intro k hk bs' hbs'
   obtain rfl := List.eq_nil_of_length_eq_zero hbs'
   rw [cTail_add]
   exact hN k hk

end

end Go.Proofs.YtakammghcodmgaaGreatDoor
namespace Go.Proofs.YtakammghcodmgaaGreatDoor
open Go Go.Sx
set_option maxRecDepth 100000
set_option maxHeartbeats 4000000
set_option linter.unusedVariables false
set_option linter.unusedSimpArgs false

def qAt (n : Nat) : List Mg := if n < 64 then [] else [alM 64]
def prAt (n : Nat) : List Pr := if n < 64 then [] else [alP]
def tiAt (n : Nat) : List Ti := if n < 64 then ti0 else []
/-- A kernel behind n ticks. -/
structure TkOk (I : List UInt8) (np n pos pa : Nat) (G : List UInt8) (S : Sta) : Prop where
 D : S.D = fun _ => false
 dc : S.dc = default
 al : S.al = default
 M : S.M = fun _ => false
 pe : S.pe = default
 ac : S.ac = default
 lk : ∃ k, S.lk = lnkI ⟨k, np⟩ (n : Int)
 se : ∃ hi hg, S.se = serI hi I pos pa hg G ∧ hi.Ok I.length ∧ hg.Ok G.length
 now : S.now = (n : Int)
 bkh : S.bk.h.Ok S.bk.l.length
 bk : ZsOk 160 S.bk.l
 q : S.q.l = qAt n
 qh : S.q.h.Ok (qAt n).length
 pr : S.pr.l = prAt n
 prh : S.pr.h.Ok (prAt n).length
 ti : S.ti.l = tiAt n
 tih : S.ti.h.Ok (tiAt n).length
 rc : S.rc.l = G.map inE
 hpos : pos ≤ I.length
 hpa : pa < 128
 hG : G.length ≤ pos
 hI : I.length ≤ 4000
 hnp : np ≤ 200

theorem zs_pages {l : List Bs} (h : ZsOk 160 l) : pagesOk 160 l = true := by
 unfold pagesOk
 obtain ⟨h1, h2⟩ := h
 simp only [Bool.and_eq_true, decide_eq_true_eq, Bool.not_eq_true']
 refine ⟨h1, ?_⟩
 rw [List.any_eq_false]
 intro x hx
 simp [iNe_eq, (h2 x hx).1]

theorem down0 {S : Sta} (h : S.D = fun _ => false) : downI S = 0 := by
 unfold downI downL
 rw [h]
 rfl

section
variable {rows0 : List (Nat × Row)} {w0 : World} {av : Nat → Prop} {Rel : Value → Fx → Prop} {bk bs : Nat} {S : Sta} {rs : List (Nat × Row)} {D : World → Prop}

/-- The head: the kernel is not nil, nothing is down, there are few messages; the state is copied; the clock ticks. -/
theorem advHead (hD0 : S.D = fun _ => false) (hq : S.q.l.length ≤ 290) (hal : S.al = default) (h0 : 0 ≤ S.now) (h1 : S.now < 1099511627776) (hDS : ∀ w, D w → RowAt w (some ⟨bs, 0, none⟩) (staC S))
 (hN : ∀ bn, AdvAt rows0 w0 av Rel 7 bk bs bn (.slice none 0 0) (.slice none 0 0) (.slice none 0 0) (.slice none 0 0) .any .any { S with now := S.now + 1 } rs D) :
 XStop Tryz.prog w0 (fun b _ => IsIn rows0 b) av advC ([SV.v (.pointer (some ⟨bk, 0, none⟩))] ++ List.replicate 174 .any) [] [] ⟨D, [advK bk bs] ++ rs⟩ (advEnd Rel) := by
 obtain ⟨z, hz⟩ : ∃ z : Int, z = 0 := ⟨_, rfl⟩
 have hd := down_spec S bs
 rw [down0 hD0, ← hz] at hd
 have hg1 := gt_q S
 have hlen := staC_len S
 have hone := staC_one S
 have hc := clockTick_idle S.now h0 h1
 have hck := gt_ck S
 rw [hal] at hck
 have hck : ((staC S).drop 365).take 2 = [.int .i64 S.now, .slice none 0 0] := hck
 have hput := pt_ck S (S.now + 1) default
 have hS : { S with now := S.now + 1, al := default } = { S with now := S.now + 1 } := by rw [← hal]
 rw [hS] at hput
 have hput : laid (staC S) 365 [.int .i64 (S.now + 1), .slice none 0 0] = staC { S with now := S.now + 1 } := hput
 obtain ⟨now, hnow⟩ : ∃ x, S.now = x := ⟨_, rfl⟩
 rw [hnow] at hc hck hput
 obtain ⟨Y, hY⟩ : ∃ Y, staC { S with now := now + 1 } = Y := ⟨_, rfl⟩
 obtain ⟨X, hX⟩ : ∃ X, staC S = X := ⟨_, rfl⟩
 have hqv : ∃ nq : Nat, S.q.l.length = nq ∧ nq ≤ 290 := ⟨_, rfl, hq⟩
 obtain ⟨nq, hnq, hnq2⟩ := hqv
 have hqe : S.q.v = S.q.h.v nq := by rw [← hnq]; rfl
 rw [hqe] at hg1
 rw [hX] at hd hg1 hlen hone hck hput hDS
 rw [hY] at hput
 refine XStop.cutN tabOk 2 (ι := Nat) (fun _ => True) (fun bn => [SV.v (.pointer (some ⟨bk, 0, none⟩)), .any, .v (.pointer (some ⟨bn, 0, none⟩))] ++ List.replicate 172 .any) (fun _ => []) (fun bn => ⟨D, [advK bk bs] ++ [(bn, Row.c X)] ++ rs⟩) ?_ fun bn _ bs' hbs' => ?_
 · conv => whnf
   repeat (first | (refine XSame.of ?_; conv => whnf) | (refine XDep.all _ _ _ _ ?_; conv => whnf))
   refine XVal.of_read (XRead.ptrNil tabOk (t := 26) rfl rfl ?_)
   conv => whnf
   repeat (first | (refine XSame.of ?_; conv => whnf) | (refine XDep.all _ _ _ _ ?_; conv => whnf))
   refine XVal.of_read (XRead.loadF tabOk rfl rfl (ad := ⟨bk, 0, none⟩) (k := 0) (L := [.pointer (some ⟨bs, 0, none⟩)]) (v := .pointer (some ⟨bs, 0, none⟩)) (Sees.row (by simp [advK])) (fun _ => rfl) rfl ?_)
   conv => whnf
   repeat (first | (refine XSame.of ?_; conv => whnf) | (refine XDep.all _ _ _ _ ?_; conv => whnf))
   refine XCall.val hd hDS (fun v F hv => ?_)
   subst hv
   conv => whnf
   repeat (first | (refine XSame.of ?_; conv => whnf) | (refine XDep.all _ _ _ _ ?_; conv => whnf))
   rw [show iNe z 0 = false from by simp [iNe_eq, hz]]
   conv => whnf
   repeat (first | (refine XSame.of ?_; conv => whnf) | (refine XDep.all _ _ _ _ ?_; conv => whnf))
   refine XVal.of_read (XRead.loadF tabOk rfl rfl (ad := ⟨bk, 0, none⟩) (k := 0) (L := [.pointer (some ⟨bs, 0, none⟩)]) (v := .pointer (some ⟨bs, 0, none⟩)) (Sees.row (by simp [advK])) (fun _ => rfl) rfl ?_)
   conv => whnf
   repeat (first | (refine XSame.of ?_; conv => whnf) | (refine XDep.all _ _ _ _ ?_; conv => whnf))
   refine XVal.of_read (XRead.loadF tabOk rfl rfl (ad := ⟨bs, 0, none⟩) (k := 267) (L := X) (v := S.q.h.v nq) (.fact hDS) (fun _ => rfl) hg1 ?_)
   conv => whnf
   repeat (first | (refine XSame.of ?_; conv => whnf) | (refine XDep.all _ _ _ _ ?_; conv => whnf))
   refine XIf.no (by simp [iGt_eq]; omega) ?_
   conv => whnf
   repeat (first | (refine XSame.of ?_; conv => whnf) | (refine XDep.all _ _ _ _ ?_; conv => whnf))
   refine XVal.of_read (XRead.loadF tabOk rfl rfl (ad := ⟨bk, 0, none⟩) (k := 0) (L := [.pointer (some ⟨bs, 0, none⟩)]) (v := .pointer (some ⟨bs, 0, none⟩)) (Sees.row (by simp [advK])) (fun _ => rfl) rfl ?_)
   conv => whnf
   repeat (first | (refine XSame.of ?_; conv => whnf) | (refine XDep.all _ _ _ _ ?_; conv => whnf))
   refine XVal.of_read (XRead.loads tabOk (t := 132) rfl rfl (ad := ⟨bs, 0, none⟩) (k := 0) (L := X) (m := X) (.fact hDS) rfl (by rw [List.drop_zero, List.take_of_length_le (by rw [hlen]; exact Nat.le_refl _)]) hlen ?_)
   refine fin_of (by simp) ?_
   dsimp only [List.set_cons_succ, List.set_cons_zero, List.length_cons, List.length_nil, List.cons_append, List.nil_append, Nat.zero_add, Nat.reduceAdd]
   refine xops_allocG rfl rfl ?_
   refine XVal.allocRow tabOk rfl (z := staC zS) (by kernel_rfl) fun bn => ?_
   refine fin_of (by simp) ?_
   dsimp only [List.set_cons_succ, List.set_cons_zero, List.length_cons, List.length_nil, List.cons_append, List.nil_append, Nat.zero_add, Nat.reduceAdd]
   refine xops_storeV rfl rfl ?_
   refine XUnit.ent (F' := ⟨D, ([advK bk bs] ++ rs) ++ [(bn, Row.c (staC zS))] ++ []⟩) (Ent.of_le ⟨by simp, fun w hw => hw⟩) ?_
   refine XUnit.storeTo tabOk rfl (b := bn) (k := 0) (X := X) rfl (by show X.length = 376; exact hlen) (fun u hu => hone u hu) (by rw [staC_len]; exact Nat.le_refl _) (laid_whole (C := X) (z := staC zS) (by rw [hlen, staC_len])) ?_
   conv => whnf
   repeat (first | (refine XSame.of ?_; conv => whnf) | (refine XDep.all _ _ _ _ ?_; conv => whnf))
   refine ⟨bn, trivial, [], ⟨by decide, by simp, rfl⟩, ?_, Ent.perm (by simp only [List.append_nil, List.append_assoc]; exact List.Perm.append_left _ List.perm_append_comm)⟩
   repeat (first | exact FLe.nil | refine FLe.any ?_ | refine FLe.cons ?_)
 · obtain rfl := List.eq_nil_of_length_eq_zero hbs'
   refine XStop.cutN tabOk 1 (ι := Unit) (fun _ => True) (fun _ => [SV.v (.pointer (some ⟨bk, 0, none⟩)), .any, .v (.pointer (some ⟨bn, 0, none⟩))] ++ List.replicate 172 .any) (fun _ => []) (fun _ => ⟨D, [advK bk bs] ++ [(bn, Row.c Y)] ++ rs⟩) ?_ fun _ _ bs' hbs' => ?_
   · conv => whnf
     repeat (first | (refine XSame.of ?_; conv => whnf) | (refine XDep.all _ _ _ _ ?_; conv => whnf))
     refine XVal.of_read (XRead.loads tabOk rfl rfl (ad := ⟨bn, 0, none⟩) (k := 365) (L := X) (m := [.int .i64 now, .slice none 0 0]) (Sees.row (by simp)) rfl hck rfl ?_)
     conv => whnf
     repeat (first | (refine XSame.of ?_; conv => whnf) | (refine XDep.all _ _ _ _ ?_; conv => whnf))
     refine XCall.val hc (fun w hw => trivial) (fun v F hv => ?_)
     subst hv
     conv => whnf
     repeat (first | (refine XSame.of ?_; conv => whnf) | (refine XDep.all _ _ _ _ ?_; conv => whnf))
     refine XUnit.ent (F' := ⟨D, [advK bk bs] ++ [(bn, Row.c X)] ++ rs⟩) (Ent.of_le ⟨by simp, fun w hw => hw⟩) ?_
     refine XUnit.storeTo tabOk rfl (b := bn) (k := 365) (X := Y) rfl rfl (List.all_eq_true.1 (by rfl)) (by rw [hlen]; decide) hput ?_
     conv => whnf
     repeat (first | (refine XSame.of ?_; conv => whnf) | (refine XDep.all _ _ _ _ ?_; conv => whnf))
     refine ⟨(), trivial, [], ⟨by decide, by simp, rfl⟩, ?_, Ent.refl _⟩
     repeat (first | exact FLe.nil | refine FLe.any ?_ | refine FLe.cons ?_)
   · obtain rfl := List.eq_nil_of_length_eq_zero hbs'
     refine XStop.cutN tabOk 4 (ι := Unit) (fun _ => True) (fun _ => advTm bk bn (.slice none 0 0) (.slice none 0 0) (.slice none 0 0) (.slice none 0 0) .any .any) (fun _ => []) (fun _ => ⟨D, [advK bk bs] ++ [(bn, Row.c Y)] ++ rs⟩) ?_ fun _ _ bs' hbs' => ?_
     · conv => whnf
       repeat (first | (refine XSame.of ?_; conv => whnf) | (refine XDep.all _ _ _ _ ?_; conv => whnf))
       refine ⟨(), trivial, [], ⟨by decide, by simp, rfl⟩, ?_, Ent.refl _⟩
       repeat (first | exact FLe.nil | refine FLe.any ?_ | refine FLe.cons ?_)
     · obtain rfl := List.eq_nil_of_length_eq_zero hbs'
       rw [cTail_add, cTail_add]
       have h := hN bn
       unfold AdvAt at h
       rw [hnow, hY] at h
       exact h

end

end Go.Proofs.YtakammghcodmgaaGreatDoor
namespace Go.Proofs.YtakammghcodmgaaGreatDoor
open Go Go.Sx
set_option maxRecDepth 100000
set_option maxHeartbeats 4000000
set_option linter.unusedVariables false
set_option linter.unusedSimpArgs false

section
variable {rows0 : List (Nat × Row)} {w0 : World} {av : Nat → Prop} {Rel : Value → Fx → Prop} {bk bs bn : Nat} {t3 t4 t5 t6 : Value} {S : Sta} {rs : List (Nat × Row)} {D : World → Prop}

theorem advTimers (n : Nat) (hM : S.M = fun _ => false) (hpe : S.pe = default) (hnow : S.now = ((n + 1 : Nat) : Int)) (hti : S.ti.l = tiAt n) (htih : S.ti.h.Ok (tiAt n).length) (hq : S.q.l = qAt n) (hqh : S.q.h.Ok (qAt n).length) (hpr : S.pr.l = prAt n) (hprh : S.pr.h.Ok (prAt n).length)
 (hD : ∀ w, D w → S.q.At mgC w ∧ S.pr.At prC w ∧ S.ti.At tiC w)
 (hR : ∀ (q : Sl Mg) (pr : Sl Pr) (ti : Sl Ti) (D' : World → Prop), q.l = qAt (n + 1) → q.h.Ok (qAt (n + 1)).length → pr.l = prAt (n + 1) → pr.h.Ok (prAt (n + 1)).length → ti.l = tiAt (n + 1) → ti.h.Ok (tiAt (n + 1)).length → (∀ w, D' w → D w ∧ (q.At mgC w ∧ pr.At prC w ∧ ti.At tiC w)) →
  Rel (.tuple ⟨[]⟩) ⟨fun w => D' w ∧ RowAt w (some ⟨bn, 0, none⟩) (staC { S with q := q, pr := pr, ti := ti }), [advK bk bn] ++ rs⟩) :
 AdvAt rows0 w0 av Rel 14 bk bs bn t3 t4 t5 t6 .any .any S rs D := by
 refine adv14 hM hpe ?_
 rcases Nat.lt_or_ge (n + 1) 64 with h64 | h64
 · have e1 : tiAt n = ti0 := if_pos (by omega)
   have e2 : tiAt (n + 1) = ti0 := if_pos h64
   have e3 : qAt n = [] := if_pos (by omega)
   have e4 : qAt (n + 1) = [] := if_pos h64
   have e5 : prAt n = [] := if_pos (by omega)
   have e6 : prAt (n + 1) = [] := if_pos h64
   rw [e1] at hti htih
   rw [e3] at hq hqh
   rw [e5] at hpr hprh
   rw [e2, e4, e6] at hR
   obtain ⟨m, hm⟩ : ∃ m : Nat, m = 0 := ⟨_, rfl⟩
   refine adv15k m hm hti (by rw [hti]; exact htih) (by rw [hnow]; omega) (fun w hw => (hD w hw).2.2) fun k hk => ?_
   refine adv16 k ti0 rfl ?_
   refine adv17n Hd.nil m hm rfl ?_
   refine adv18 ?_
   exact hR S.q S.pr ⟨k, ti0⟩ _ hq hqh hpr hprh rfl hk fun w hw => ⟨hw.1, (hD w hw.1).1, (hD w hw.1).2.1, hw.2⟩
 · have e2 : tiAt (n + 1) = [] := if_neg (by omega)
   have e4 : qAt (n + 1) = [alM 64] := if_neg (by omega)
   have e6 : prAt (n + 1) = [alP] := if_neg (by omega)
   rw [e2, e4, e6] at hR
   rcases Nat.lt_or_ge n 64 with h63 | h63
   · have hn : n = 63 := by omega
     have e1 : tiAt n = ti0 := if_pos h63
     have e3 : qAt n = [] := if_pos h63
     have e5 : prAt n = [] := if_pos h63
     rw [e1] at hti htih
     rw [e3] at hq hqh
     rw [e5] at hpr hprh
     have hnow' : S.now = 64 := by rw [hnow]; omega
     obtain ⟨m, hm⟩ : ∃ m : Nat, m = 1 := ⟨_, rfl⟩
     refine adv15d m hm hti (by rw [hti]; exact htih) (by rw [hnow']; omega) (fun w hw => (hD w hw).2.2) fun k d hk hd => ?_
     refine adv16 k [] rfl ?_
     refine adv17d d m hm hd rfl hq hqh hpr hprh (fun w hw => hw.2) fun hq' hp' hqo hpo => ?_
     refine adv18 ?_
     have hS : (Sta.po { S with ti := ⟨k, []⟩ } ⟨hq', [alM S.now]⟩ ⟨hp', [alP]⟩) = { S with q := ⟨hq', [alM 64]⟩, pr := ⟨hp', [alP]⟩, ti := ⟨k, []⟩ } := by rw [hnow']; rfl
     show Rel _ ⟨fun w => ((D w ∧ RowAt w d.a (tiC ⟨1, 1, 64⟩)) ∧ (RowAt w hq'.a (mgC (alM S.now)) ∧ RowAt w hp'.a (prC alP))) ∧ RowAt w (some ⟨bn, 0, none⟩) (staC (Sta.po { S with ti := ⟨k, []⟩ } ⟨hq', [alM S.now]⟩ ⟨hp', [alP]⟩)), _⟩
     rw [hS, congrArg alM hnow']
     refine hR ⟨hq', [alM 64]⟩ ⟨hp', [alP]⟩ ⟨k, []⟩ (fun w => (D w ∧ RowAt w d.a (tiC ⟨1, 1, 64⟩)) ∧ (RowAt w hq'.a (mgC (alM 64)) ∧ RowAt w hp'.a (prC alP))) rfl hqo rfl hpo rfl hk fun w hw => ⟨hw.1.1, ?_, ?_, RowAt.none' _⟩
     · show RowAt w hq'.a (mgC (alM 64) ++ [])
       rw [List.append_nil]
       exact hw.2.1
     · show RowAt w hp'.a (prC alP ++ [])
       rw [List.append_nil]
       exact hw.2.2
   · have e1 : tiAt n = [] := if_neg (by omega)
     have e3 : qAt n = [alM 64] := if_neg (by omega)
     have e5 : prAt n = [alP] := if_neg (by omega)
     rw [e1] at hti htih
     rw [e3] at hq hqh
     rw [e5] at hpr hprh
     obtain ⟨m, hm⟩ : ∃ m : Nat, m = 0 := ⟨_, rfl⟩
     refine adv15n m hm hti (by rw [hti]; exact htih) fun k hk => ?_
     refine adv16 k [] rfl ?_
     refine adv17n Hd.nil m hm rfl ?_
     refine adv18 ?_
     exact hR S.q S.pr ⟨k, []⟩ _ hq hqh hpr hprh rfl hk fun w hw => ⟨hw, (hD w hw).1, (hD w hw).2.1, RowAt.none' _⟩
end

def RelAdv (DC I : List UInt8) (np n : Nat) (G : List UInt8) (r : Nat × Nat × List UInt8) (bk : Nat) (v : Value) (F : Fx) : Prop :=
 ∃ (bn : Nat) (S : Sta) (a : Option Addr) (cap : Nat) (C : List Value), TkOk I np (n + 1) r.1 r.2.1 (G ++ r.2.2) S ∧ S.rc.h = ⟨a, cap⟩ ∧ Sx.Owg 8 (G ++ r.2.2).length a cap C (((G ++ r.2.2).map inE).flatMap enC) ∧ v = .tuple ⟨[]⟩ ∧
  (∀ w, F.D w → RowAt w (some ⟨bn, 0, none⟩) (staC S) ∧ TkAt DC I (G ++ r.2.2) S w) ∧ F.rs = [advK bk bn] ++ orow a C

theorem arr_out {I : List UInt8} {pos pa : Nat} : (arr I pos pa).2.2 = [] ∨ ∃ c, (arr I pos pa).2.2 = [c] := by
 unfold arr
 repeat' split
 · exact .inl rfl
 · exact .inl rfl
 · exact .inl rfl
 · exact .inr ⟨_, rfl⟩

theorem advance_spec (DC I : List UInt8) (np n pos pa : Nat) (G : List UInt8) (S : Sta) (h : TkOk I np n pos pa G S) (hn : n ≤ 1000) (hGl : G.length ≤ 1000) (bk bs : Nat) (a : Option Addr) (cap : Nat) (C : List Value) (hO : Sx.Owg 8 G.length a cap C ((G.map inE).flatMap enC)) (hrc : S.rc.h = ⟨a, cap⟩) :
 RowsSpec Tryz.prog 8 [.pointer (some ⟨bk, 0, none⟩)] ([advK bk bs] ++ orow a C) (fun w => RowAt w (some ⟨bs, 0, none⟩) (staC S) ∧ TkAt DC I G S w) (RelAdv DC I np n G (arr I pos pa) bk) := by
 obtain ⟨hi, hg, hse, hio, hgo⟩ := h.se
 obtain ⟨kp, hlk⟩ := h.lk
 obtain ⟨z, hz⟩ : ∃ z : Nat, z = 0 := ⟨_, rfl⟩
 have hlq : (qAt n).length ≤ 1 := by unfold qAt; split <;> decide
 refine RowsSpec.of_stop tabOk Tryz.func8 (c := advC) rfl (by decide) (n := Tryz.f8.ntmps - 1) rfl rows_CM fun w0 av => ?_
 show XStop Tryz.prog w0 (fun b _ => IsIn ([advK bk bs] ++ orow a C) b) av advC ([SV.v (.pointer (some ⟨bk, 0, none⟩))] ++ List.replicate 174 .any) [] [] ⟨_, [advK bk bs] ++ orow a C⟩ (advEnd (RelAdv DC I np n G (arr I pos pa) bk))
 refine advHead (S := S) h.D (by rw [h.q]; omega) h.al (by rw [h.now]; omega) (by rw [h.now]; omega) (fun w hw => hw.1) fun bn => ?_
 have hnow1 : S.now + 1 = ((n + 1 : Nat) : Int) := by rw [h.now]; omega
 rw [hnow1]
 refine adv7 (S := { S with now := ((n + 1 : Nat) : Int) }) z hz h.dc h.bkh (by show S.bk.l.length ≤ _; rw [h.bk.1]; decide) (zs_pages h.bk) (fun w hw => hw.2.2.2.2.1.1) fun kb hkb => ?_
 refine adv8 z hz ⟨kp, np⟩ (n : Int) hlk h.hnp (by omega) (by omega) ?_
 refine adv9 z hz hi I pos pa hg G hse hio h.hI h.hpos h.hpa h.hG hgo (fun w hw => ?_) fun hg' k hg'o hko => ?_
 · have h5 := hw.1.2.2.2.2.2
   rw [hse] at h5
   exact h5
 have hp1 := arr_pos (pa := pa) h.hpos
 have hp2 := arr_pa (I := I) (pos := pos) h.hpa
 have hp3 := arr_len (I := I) (pos := pos) (pa := pa)
 have hout := arr_out (I := I) (pos := pos) (pa := pa)
 obtain ⟨r, hr⟩ : ∃ r, arr I pos pa = r := ⟨_, rfl⟩
 rw [hr] at hp1 hp2 hp3 hout hg'o hko ⊢
 have hfin : ∀ (S5 : Sta) (a' : Option Addr) (cap' : Nat) (C' : List Value) (D5 : World → Prop), (∀ rc', S5.rc = rc' → S5 = { S with now := ((n + 1 : Nat) : Int), bk := ⟨kb, S.bk.l⟩, lk := lnkI ⟨kp, np⟩ ((n : Int) + 1), se := serI hi I r.1 r.2.1 hg' (G ++ r.2.2), rc := rc' }) → S5.rc.l = (G ++ r.2.2).map inE → S5.rc.h = ⟨a', cap'⟩ → Sx.Owg 8 (G ++ r.2.2).length a' cap' C' (((G ++ r.2.2).map inE).flatMap enC) →
  (∀ w, D5 w → TkAt DC I (G ++ r.2.2) S5 w) → AdvAt ([advK bk bs] ++ orow a C) w0 av (RelAdv DC I np n G r bk) 11 bk bs bn (Hd.nil.v z) (Hd.nil.v z) (Hd.nil.v z) (k.v r.2.2.length) .any .any S5 (orow a' C') D5 := by
  intro S5 a' cap' C' D5 hS5 hrl hrh hO5 hD5
  have hS5 := hS5 _ rfl
  refine adv11n Hd.nil z hz rfl ?_
  refine adv12n Hd.nil z hz rfl ?_
  refine adv13n Hd.nil z hz rfl ?_
  refine advTimers n (by rw [hS5]; exact h.M) (by rw [hS5]; exact h.pe) (by rw [hS5]) (by rw [hS5]; exact h.ti) (by rw [hS5]; exact h.tih) (by rw [hS5]; exact h.q) (by rw [hS5]; exact h.qh) (by rw [hS5]; exact h.pr) (by rw [hS5]; exact h.prh) (fun w hw => ⟨(hD5 w hw).1, (hD5 w hw).2.1, (hD5 w hw).2.2.1⟩) fun q pr ti D' hq1 hq2 hp1' hp2' ht1 ht2 hD' => ?_
  refine ⟨bn, { S5 with q := q, pr := pr, ti := ti }, a', cap', C', ?_, hrh, hO5, rfl, fun w hw => ⟨hw.2, ?_⟩, rfl⟩
  · rw [hS5]
    exact ⟨h.D, h.dc, h.al, h.M, h.pe, h.ac, ⟨kp, by show lnkI _ ((n : Int) + 1) = lnkI _ ((n + 1 : Nat) : Int); rw [show ((n + 1 : Nat) : Int) = (n : Int) + 1 by omega]⟩, ⟨hi, hg', rfl, hio, hg'o⟩, rfl, hkb, h.bk, hq1, hq2, hp1', hp2', ht1, ht2, hrl, hp1.1, hp2, by simp only [List.length_append]; have := h.hG; omega, h.hI, h.hnp⟩
  · obtain ⟨hd, h1, h2, h3⟩ := hD' w hw.1
    obtain ⟨-, -, -, g4, g5, g6⟩ := hD5 w hd
    exact ⟨h1, h2, h3, g4, g5, g6⟩
 rcases hout with hout | ⟨c, hout⟩
 · have e0 : G ++ r.2.2 = G := by rw [hout, List.append_nil]
   refine adv10n k r.2.2.length (by rw [hout]; rfl) rfl ?_
   refine hfin _ a cap C _ (fun rc' hrc' => by rw [← hrc']) (by rw [e0]; exact h.rc) hrc (by rw [e0]; exact hO) fun w hw => ?_
   obtain ⟨⟨⟨hw1, g1, g2, g3, g4, g5, g6⟩, hw2⟩, hw3, hw4⟩ := hw
   rw [hse] at g5
   exact ⟨g1, g2, g3, ⟨hw2, g4.2⟩, g5, hw3⟩
 · have hrl : S.rc.l.length = G.length := by rw [h.rc]; simp
   refine adv10d k r.2.2.length (by rw [hout]; rfl) hko rfl c (fun w hw => by have := hw.2.2; rw [hout] at this; exact this) a cap C (by show Sx.Owg 8 S.rc.l.length a cap C (S.rc.l.flatMap enC); rw [hrl, h.rc]; exact hO) hrc (by show S.rc.l.length ≤ _; omega) fun a' cap' C' hO' => ?_
   have hO' : Sx.Owg 8 (S.rc.l.length + 1) a' cap' C' ((S.rc.l ++ [inE c]).flatMap enC) := hO'
   have e1 : S.rc.l ++ [inE c] = (G ++ r.2.2).map inE := by rw [h.rc, hout, List.map_append]; rfl
   have e2 : S.rc.l.length + 1 = (G ++ r.2.2).length := by rw [hrl, hout]; simp
   rw [e1, e2] at hO'
   refine hfin _ a' cap' C' _ (fun rc' hrc' => by rw [← hrc']; rfl) e1 rfl hO' fun w hw => ?_
   obtain ⟨⟨⟨hw1, g1, g2, g3, g4, g5, g6⟩, hw2⟩, hw3, hw4⟩ := hw
   rw [hse] at g5
   exact ⟨g1, g2, g3, ⟨hw2, g4.2⟩, g5, hw3⟩

end Go.Proofs.YtakammghcodmgaaGreatDoor
namespace Go.Proofs.YtakammghcodmgaaGreatDoor
open Go Go.Sx
set_option maxRecDepth 100000
set_option maxHeartbeats 4000000
set_option linter.unusedVariables false
set_option linter.unusedSimpArgs false

theorem mfew_spec (hc hi hp : Hd) (nc ni np : Nat) : PureSpec Tryz.prog 5 [.agg ⟨[hc.v nc, hi.v ni, hp.v np]⟩] (fun _ => True) (fun v F => v = .bool (decide (nc ≤ 21000) && decide (ni ≤ 4100) && decide (np ≤ 300))) := by
 refine PureSpec.of_xc tabOk Tryz.func5 rfl (by decide) (n := Tryz.f5.ntmps - 1) rfl rfl fun w0 av => ?_
 conv => whnf
 repeat (first | (refine XSame.of ?_; conv => whnf) | (refine XDep.all _ _ _ _ ?_; conv => whnf))
 intro b1
 conv => whnf
 repeat (first | (refine XSame.of ?_; conv => whnf) | (refine XDep.all _ _ _ _ ?_; conv => whnf))
 repeat' (first
  | (refine And.intro ?_ ?_ <;> conv => whnf)
  | (refine XHeld.same rfl ?_; conv => whnf)
  | (refine XHeld.row rfl ?_; conv => whnf)
  | (refine XHeld.call rfl ?_; conv => whnf)
  | (refine XHeld.factCall rfl ?_; conv => whnf)
  | (refine XKeep.of ?_; conv => whnf)
  | (refine XSame.of ?_; conv => whnf)
  | (refine XDep.all _ _ _ _ ?_; conv => whnf)
  | (split <;> conv => whnf)
  | (refine XHeld.mk ?_ ?_; (focus (first | exact Ent.refl _ | exact Ent.left _ _ | exact Ent.of_le ⟨List.sublist_append_left _ _, fun w h => h⟩ | exact Ent.of_le ⟨List.Sublist.refl _, fun w h => h.1⟩)); conv => whnf))
 all_goals refine ⟨_, Ent.refl _, ?_⟩
 all_goals first | rfl | (congr 1; done) | (congr 1; rw [Bool.eq_iff_iff]; simp_all [iGe_eq, iLt_eq, iLe_eq, iGt_eq, iEq_eq, iNe_eq, and_assoc]; done) | (congr 1; rw [Bool.eq_iff_iff]; simp_all [iGe_eq, iLt_eq, iLe_eq, iGt_eq, iEq_eq, iNe_eq, and_assoc]; omega) | (congr 1; rw [Bool.eq_iff_iff]; (try cases q1) <;> (try cases q2) <;> (try cases q3) <;> (try simp_all [iGe_eq, iLt_eq, iLe_eq, iGt_eq, iEq_eq, iNe_eq, and_assoc]) <;> (try omega); done)

/-- What has arrived after n ticks: the place, the pause, the bytes. -/
def arrN (I : List UInt8) : Nat → Nat × Nat × List UInt8
 | 0 => (0, 0, [])
 | n + 1 => ((arr I (arrN I n).1 (arrN I n).2.1).1, (arr I (arrN I n).1 (arrN I n).2.1).2.1, (arrN I n).2.2 ++ (arr I (arrN I n).1 (arrN I n).2.1).2.2)
theorem arrN_len (I : List UInt8) (n : Nat) : (arrN I n).2.2.length ≤ n := by
 induction n with
 | zero => exact Nat.le_refl _
 | succ n ih =>
  show ((arrN I n).2.2 ++ (arr I (arrN I n).1 (arrN I n).2.1).2.2).length ≤ n + 1
  have := (arr_len (I := I) (pos := (arrN I n).1) (pa := (arrN I n).2.1)).1
  rw [List.length_append]
  omega

theorem tmod_nat (n : Nat) (h : n < 256) : (IntKind.i64.wrap (n : Int)).tmod 201 = ((n % 201 : Nat) : Int) := by
 rw [wrap_i64 (by omega), Int.tmod_eq_emod_of_nonneg (by omega)]
 omega

noncomputable def tkC : Code := Tryz.f3.body.getD .skip
def tkTm (v5 v8 v9 : Value) (s6 v13 : SV) : List SV := [.any, .any, .p 0 0, .any, .any, .v v5, s6, .any, .v v8, .v v9, .any, .any, .any, v13] ++ List.replicate 160 .any
noncomputable def tkEnd : Exit → KT := kEnd tab Tryz.f3.results.toList (pureFin fun v F => v = .bool true)
def TkL (w0 : World) (av : Nat → Prop) (k : Nat) (tm : List SV) (cs : List (List Value)) (F : Fx) : Prop :=
 ∀ bs : List (Nat × Nat), bs.length = cs.length → XStop Tryz.prog w0 (fun _ _ => False) av (cTail k tkC) tm bs cs F tkEnd
def mCells (hc hi hp : Hd) (nc ni np : Nat) : List Value := [hc.v nc, hi.v ni, hp.v np]

section
variable {w0 : World} {av : Nat → Prop} {bk bs : Nat} {S : Sta} {D : World → Prop} {v8 v9 : Value}

/-- The end: the content of the disk. -/
theorem tk12 (hc hi hp : Hd) (ni np : Nat) (DC : List UInt8) (hco : hc.Ok DC.length) (hDC : DC.length ≤ 20480) (hh : S.bk.h.Ok S.bk.l.length) (hz : ZsOk 160 S.bk.l)
 (hD : ∀ w, D w → (RowAt w (some ⟨bk, 0, none⟩) [.pointer (some ⟨bs, 0, none⟩)] ∧ (RowAt w (some ⟨bs, 0, none⟩) (staC S) ∧ (RowAt w S.bk.h.a (S.bk.l.map bsV) ∧ BlkAt DC S.bk.l w))) ∧ By w hc DC) :
 TkL w0 av 12 (tkTm (.pointer (some ⟨bk, 0, none⟩)) v8 v9 .any .any) [mCells hc hi hp DC.length ni np] ⟨D, []⟩ := by
 intro bs' hbs'
 match bs', hbs' with
 | [b0], _ =>
  have h1 := kdisk_spec S bk bs hh DC hDC hz
  refine XStop.of_xc tabOk ?_
  conv => whnf
  repeat (first | (refine XSame.of ?_; conv => whnf) | (refine XDep.all _ _ _ _ ?_; conv => whnf))
  refine XCall.pure h1 (fun w hw => (hD w hw).1) (fun v F hv => ?_)
  obtain ⟨k, rfl, hk, rfl⟩ := hv
  obtain ⟨nd, hnd⟩ : ∃ n : Nat, (dskL DC).length = n := ⟨_, rfl⟩
  have hnd2 : nd = 20480 := by rw [← hnd, dskL_len hDC]
  rw [hnd] at hk ⊢
  conv => whnf
  repeat (first | (refine XSame.of ?_; conv => whnf) | (refine XDep.all _ _ _ _ ?_; conv => whnf))
  have htake : (dskL DC).take DC.length = DC := by
   unfold dskL
   rw [List.take_append_of_le_length (Nat.le_refl _), List.take_length]
  refine XStop.draw tabOk mixed rfl rfl ?_
  conv => whnf
  repeat' (first
   | (refine And.intro ?_ ?_ <;> conv => whnf)
   | (refine XHeld.same rfl ?_; conv => whnf)
   | (refine XHeld.row rfl ?_; conv => whnf)
   | (refine XHeld.call rfl ?_; conv => whnf)
   | (refine XHeld.factCall rfl ?_; conv => whnf)
   | (refine XKeep.of ?_; conv => whnf)
   | (refine XSame.of ?_; conv => whnf)
   | (refine XDep.all _ _ _ _ ?_; conv => whnf)
   | (rw [show iEq (nd : Int) 20480 = true from by simp [iEq_eq, hnd2]]; conv => whnf)
   | (refine XRead.slice tabOk (t := 22) rfl rfl rfl (lo := none) (hi := some (DC.length : Int)) (mx := none) (k1 := .i64) (k3 := .i64) 0 DC.length k.c rfl rfl rfl (by omega) (by have := hk.cap; omega) (Nat.le_refl _) (fun _ => rfl) ?_; conv => whnf)
   | (refine XRead.bytes tabOk (t := 22) (u := 9) rfl rfl rfl rfl rfl rfl (l := DC) (Sees.fact fun w hw => (hD w hw.1).2) rfl ?_; conv => whnf)
   | (refine XRead.bytes tabOk (t := 22) (u := 9) rfl rfl rfl rfl rfl rfl (l := DC) (Sees.fact fun w hw => ?row) (Nat.sub_zero _) ?_; (case row => (rw [cutA_zero]; have h2 := RowAt.take hw.2 DC.length; rw [← List.map_take, htake] at h2; exact h2)); conv => whnf)
   | (refine XRead.strEq ?_; conv => whnf)
   | (refine XHeld.mk ?_ ?_; (focus (first | exact Ent.refl _ | exact Ent.left _ _ | exact Ent.of_le ⟨List.sublist_append_left _ _, fun w h => h⟩ | exact Ent.of_le ⟨List.Sublist.refl _, fun w h => h.1⟩)); conv => whnf))
  all_goals exact ⟨_, Ent.refl _, by simp⟩

/-- Whether a component has a message, and which. -/
def okAt (T c : Nat) : Bool := decide (c = 1 ∧ 64 ≤ T)
def msgAt (T c : Nat) : Mg := if okAt T c then alM 64 else mgZ
theorem find_at (T c : Nat) (hc : 1 ≤ c ∧ c ≤ 10) : (qAt T).find? (fun x => iEq x.dst (c : Int)) = if okAt T c then some (msgAt T c) else none := by
 unfold qAt msgAt okAt
 by_cases h : T < 64
 · rw [if_pos h]
   have : ¬ (c = 1 ∧ 64 ≤ T) := by omega
   simp [this]
 · rw [if_neg h]
   by_cases h1 : c = 1
   · subst h1
     have h2 : iEq (alM 64).dst ((1 : Nat) : Int) = true := by simp [iEq_eq, alM]
     rw [List.find?_cons, h2]
     simp
     omega
   · have h2 : iEq (alM 64).dst (c : Int) = false := by simp [iEq_eq, alM]; omega
     rw [List.find?_cons, h2]
     simp [h1]

/-- The messages. -/
theorem tk11 (T : Nat) (hv8 : v8 = .int .i64 (T : Int)) (mc : List Value) (hSD : S.D = fun _ => false) (hq : S.q.l = qAt T) (hqh : S.q.h.Ok (qAt T).length)
 (hD : ∀ w, D w → RowAt w (some ⟨bk, 0, none⟩) [.pointer (some ⟨bs, 0, none⟩)] ∧ (RowAt w (some ⟨bs, 0, none⟩) (staC S) ∧ RowAt w S.q.h.a (S.q.l.flatMap mgC)))
 (hN : TkL w0 av 12 (tkTm (.pointer (some ⟨bk, 0, none⟩)) v8 v9 .any .any) [mc] ⟨D, []⟩) : TkL w0 av 11 (tkTm (.pointer (some ⟨bk, 0, none⟩)) v8 v9 .any .any) [mc] ⟨D, []⟩ := by
 subst hv8
 have hlq : (qAt T).length ≤ 1 := by unfold qAt; split <;> decide
 have hqd : ∀ x ∈ S.q.l, x.data = default := by
  rw [hq]
  unfold qAt
  split
  · intro x hx; cases hx
  · intro x hx; simp at hx; subst hx; rfl
 intro bs' hbs'
 match bs', hbs' with
 | [b0], _ =>
  refine XStop.cutN tabOk 1 (ι := Unit) (fun _ => True) (fun _ => tkTm (.pointer (some ⟨bk, 0, none⟩)) (.int .i64 (T : Int)) v9 .any .any) (fun _ => [mc]) (fun _ => ⟨D, []⟩) ?_ fun _ _ bs2 hbs2 => ?_
  · conv => whnf
    repeat (first | (refine XSame.of ?_; conv => whnf) | (refine XDep.all _ _ _ _ ?_; conv => whnf))
    refine XStop.loop tabOk (ι := Nat) ([15, 16, 17] ++ List.range' 125 32) (fun x => x ≤ 11) (fun x => [(125, .v (.int .i64 (x : Int)))]) (fun _ => [mc]) (fun _ => ⟨D, []⟩) (fun x => 11 - x) 0 (Nat.zero_le _) ?_ rfl (Ent.refl _) fun c hc => ?_
    · conv => whnf
      repeat (first | exact FLe.nil | refine FLe.any ?_ | refine FLe.cons ?_)
    conv => whnf
    repeat (first | (refine XSame.of ?_; conv => whnf) | (refine XDep.all _ _ _ _ ?_; conv => whnf))
    refine XIf.split (fun hlt => ?_) (fun hlt => ?_)
    · have hlt' : c < 11 := by
       simp only [iLt_eq, decide_eq_true_eq] at hlt
       omega
      have h1 := message_spec S bk bs hSD hqd (by rw [hq]; exact hqh) (by rw [hq]; omega) c (msgAt T c) (okAt T c) (fun h => by rw [hq]; exact find_at T c h) (fun h => by unfold okAt; simp; omega) (fun h => by unfold msgAt; rw [h]; rfl)
      have hm : okAt T c = true → msgAt T c = alM 64 := fun h => by unfold msgAt; rw [h]; rfl
      have hok : okAt T c = (iEq (c : Int) 1 && iGe (T : Int) 64) := by
       unfold okAt
       rw [Bool.eq_iff_iff]
       simp [iEq_eq, iGe_eq]
       omega
      obtain ⟨m, hme⟩ : ∃ m, msgAt T c = m := ⟨_, rfl⟩
      obtain ⟨ok, hoke⟩ : ∃ ok, okAt T c = ok := ⟨_, rfl⟩
      rw [hme, hoke] at h1 hm
      rw [hoke] at hok
      conv => whnf
      repeat (first | (refine XSame.of ?_; conv => whnf) | (refine XDep.all _ _ _ _ ?_; conv => whnf))
      refine XCall.val h1 (fun w hw => hD w hw) (fun v F hv => ?_)
      subst hv
      conv => whnf
      repeat (first | (refine XSame.of ?_; conv => whnf) | (refine XDep.all _ _ _ _ ?_; conv => whnf))
      intro b3
      refine snocK_of ?_
      refine snocK_of ?_
      refine fin_of (by simp) ?_
      dsimp only [List.set_cons_succ, List.set_cons_zero, List.length_cons, List.length_nil, List.cons_append, List.nil_append, Nat.zero_add, Nat.reduceAdd]
      conv => whnf
      repeat (first | (refine XSame.of ?_; conv => whnf) | (refine XDep.all _ _ _ _ ?_; conv => whnf))
      rw [← hok, show (!(ok == ok)) = false from by simp]
      conv => whnf
      repeat (first | (refine XSame.of ?_; conv => whnf) | (refine XDep.all _ _ _ _ ?_; conv => whnf))
      cases ok
      · conv => whnf
        repeat (first | (refine XSame.of ?_; conv => whnf) | (refine XDep.all _ _ _ _ ?_; conv => whnf))
        refine ⟨c + 1, ⟨hlt', by dsimp only; omega⟩, ?_, ?_, Ent.refl _⟩
        · conv => whnf
          refine ⟨?_, rfl⟩
          repeat (first | exact FLe.nil | refine FLe.any ?_ | refine FLe.cons ?_ | refine FLe.eq (by rw [wrap_i64 (by omega)]; rfl) ?_)
        · conv => whnf
          exact ⟨⟨rfl, rfl⟩, trivial⟩
      · have hm := hm rfl
        conv => whnf
        repeat (first | (refine XSame.of ?_; conv => whnf) | (refine XDep.all _ _ _ _ ?_; conv => whnf))
        rw [show iNe m.kind 4 = false from by rw [hm]; simp [iNe_eq, alM]]
        conv => whnf
        repeat (first | (refine XSame.of ?_; conv => whnf) | (refine XDep.all _ _ _ _ ?_; conv => whnf))
        obtain ⟨ii, hii⟩ := infoI
        refine XVal.of_read (XRead.neArr (t := 51) (n := 4) (e := 3) (xs := [m.a0, m.a1, m.a2, m.a3].map (Value.int .i64)) (ys := [1, 64, 0, 0].map (Value.int .i64)) (by kernel_rfl) (.inl (by kernel_rfl)) hii (by kernel_rfl) (by kernel_rfl) (cell1_ints (by kernel_rfl) rfl rfl) ?_)
        rw [show (!(arrEq 4 ([m.a0, m.a1, m.a2, m.a3].map (Value.int .i64)) ([1, 64, 0, 0].map (Value.int .i64)))) = false from by rw [hm]; decide]
        conv => whnf
        repeat (first | (refine XSame.of ?_; conv => whnf) | (refine XDep.all _ _ _ _ ?_; conv => whnf))
        refine ⟨c + 1, ⟨hlt', by dsimp only; omega⟩, ?_, ?_, Ent.refl _⟩
        · conv => whnf
          refine ⟨?_, rfl⟩
          repeat (first | exact FLe.nil | refine FLe.any ?_ | refine FLe.cons ?_ | refine FLe.eq (by rw [wrap_i64 (by omega)]; rfl) ?_)
        · conv => whnf
          exact ⟨⟨rfl, rfl⟩, trivial⟩
    · have hie : c = 11 := by
       simp only [iLt_eq, decide_eq_false_iff_not] at hlt
       omega
      subst hie
      conv => whnf
      repeat (first | (refine XSame.of ?_; conv => whnf) | (refine XDep.all _ _ _ _ ?_; conv => whnf))
      refine ⟨(), trivial, [0], ⟨by decide, by simp, rfl⟩, ?_, Ent.refl _⟩
      repeat (first | exact FLe.nil | refine FLe.any ?_ | refine FLe.cons ?_)
  · rw [cTail_add]
    exact hN bs2 hbs2

/-- The record. -/
theorem tk10 (mc : List Value) (kl ka : Hd) (G : List UInt8) (hv9 : v9 = ka.v G.length) (hko : kl.Ok G.length) (hao : ka.Ok G.length) (hG : G.length ≤ 1000)
 (hD : ∀ w, D w → RowAt w kl.a ((G.map inE).flatMap enC) ∧ By w ka G)
 (hN : TkL w0 av 11 (tkTm (.pointer (some ⟨bk, 0, none⟩)) v8 v9 .any .any) [mc] ⟨D, []⟩) : TkL w0 av 10 (tkTm (.pointer (some ⟨bk, 0, none⟩)) v8 v9 .any (.v (kl.v G.length))) [mc] ⟨D, []⟩ := by
 subst hv9
 intro bs' hbs'
 match bs', hbs' with
 | [b0], _ =>
  refine XStop.cutN tabOk 1 (ι := Unit) (fun _ => True) (fun _ => tkTm (.pointer (some ⟨bk, 0, none⟩)) v8 (ka.v G.length) .any .any) (fun _ => [mc]) (fun _ => ⟨D, []⟩) ?_ fun _ _ bs2 hbs2 => ?_
  · conv => whnf
    repeat (first | (refine XSame.of ?_; conv => whnf) | (refine XDep.all _ _ _ _ ?_; conv => whnf))
    refine XStop.loop tabOk (ι := Nat) ([14] ++ List.range' 94 31) (fun x => x ≤ G.length) (fun x => [(94, .v (.int .i64 (x : Int)))]) (fun _ => [mc]) (fun _ => ⟨D, []⟩) (fun x => G.length - x) 0 (Nat.zero_le _) ?_ rfl (Ent.refl _) fun i hi => ?_
    · conv => whnf
      repeat (first | exact FLe.nil | refine FLe.any ?_ | refine FLe.cons ?_)
    conv => whnf
    repeat (first | (refine XSame.of ?_; conv => whnf) | (refine XDep.all _ _ _ _ ?_; conv => whnf))
    refine XIf.split (fun hlt => ?_) (fun hlt => ?_)
    · have hlt' : i < G.length := by
       simp only [iLt_eq, decide_eq_true_eq] at hlt
       omega
      have hlt2 : i < (G.map inE).length := by simpa using hlt'
      have hcell := fm_get (cf := enC) (z := 8) (fun _ => rfl) hlt2
      have hx : (G.map inE)[i] = inE G[i] := by simp
      rw [hx] at hcell
      obtain ⟨L, hL⟩ : ∃ L, (G.map inE).flatMap enC = L := ⟨_, rfl⟩
      rw [hL] at hD hcell
      obtain ⟨kd, hkd⟩ : ∃ x : Int, x = 7 := ⟨_, rfl⟩
      obtain ⟨zt, hzt⟩ : ∃ x : Int, x = 0 := ⟨_, rfl⟩
      obtain ⟨cr, hcr⟩ : ∃ x : Int, x = (G[i].toNat : Int) := ⟨_, rfl⟩
      have hc0 : L[i * 8]? = some (.int .i64 kd) := by rw [hkd]; exact cellOf (j := 0) hcell (by decide) rfl
      have hc1 : L[i * 8 + 1]? = some (.int .i64 zt) := by rw [hzt]; exact cellOf (j := 1) hcell (by decide) rfl
      have hc6 : L[i * 8 + 6]? = some (.int .i64 cr) := by rw [hcr]; exact cellOf (j := 6) hcell (by decide) rfl
      have hlt3 := G[i].toNat_lt
      conv => whnf
      repeat (first | (refine XSame.of ?_; conv => whnf) | (refine XDep.all _ _ _ _ ?_; conv => whnf))
      refine XStop.draw tabOk mixed rfl rfl ?_
      conv => whnf
      repeat' (first
       | (refine And.intro ?_ ?_ <;> conv => whnf)
       | (refine XHeld.same rfl ?_; conv => whnf)
       | (refine XHeld.row rfl ?_; conv => whnf)
       | (refine XHeld.call rfl ?_; conv => whnf)
       | (refine XHeld.factCall rfl ?_; conv => whnf)
       | (refine XKeep.of ?_; conv => whnf)
       | (refine XSame.of ?_; conv => whnf)
       | (refine XDep.all _ _ _ _ ?_; conv => whnf)
       | (rw [show iNe kd 7 = false from by simp [iNe_eq, hkd]]; conv => whnf)
       | (rw [show iNe zt 0 = false from by simp [iNe_eq, hzt]]; conv => whnf)
       | (refine XRead.index tabOk (t := 42) rfl rfl rfl (by omega) (by omega) hko.nil fun ad had => ?_; conv => whnf)
       | (refine XRead.byteAt tabOk (t := 22) rfl rfl rfl rfl i rfl hlt' hao fun ad had => ?_; conv => whnf)
       | (refine XRead.byteLd tabOk (t := 5) rfl rfl ?had (Sees.fact fun w h => (hD w h).2) hlt' ?_; (case had => assumption); conv => whnf)
       | (refine XRead.loadF tabOk rfl rfl (ad := ad) (k := i * 8) (L := L) (v := .int .i64 kd) (Sees.fact fun w hw => had ▸ (hD w hw).1) ?adr hc0 ?_; (case adr => intro hs; rw [Addr.addAdd hs]; simp; done); conv => whnf)
       | (refine XRead.loadF tabOk rfl rfl (ad := ad) (k := i * 8 + 1) (L := L) (v := .int .i64 zt) (Sees.fact fun w hw => had ▸ (hD w hw).1) ?adr hc1 ?_; (case adr => intro hs; rw [Addr.addAdd hs]; simp; done); conv => whnf)
       | (refine XRead.loadF tabOk rfl rfl (ad := ad) (k := i * 8 + 6) (L := L) (v := .int .i64 cr) (Sees.fact fun w hw => had ▸ (hD w hw).1) ?adr hc6 ?_; (case adr => intro hs; rw [Addr.addAdd hs]; simp; done); conv => whnf)
       | (refine XHeld.mk ?_ ?_; (focus (first | exact Ent.refl _ | exact Ent.left _ _ | exact Ent.of_le ⟨List.sublist_append_left _ _, fun w h => h⟩ | exact Ent.of_le ⟨List.Sublist.refl _, fun w h => h.1⟩)); conv => whnf))
      all_goals
       refine XIf.no (by rw [hcr, wrap_i64 (by omega)]; simp [iNe_eq]) ?_
       conv => whnf
       repeat (first | (refine XSame.of ?_; conv => whnf) | (refine XDep.all _ _ _ _ ?_; conv => whnf))
       refine ⟨i + 1, ⟨hlt', by dsimp only; omega⟩, ?_, ?_, Ent.refl _⟩
       · conv => whnf
         refine ⟨?_, rfl⟩
         repeat (first | exact FLe.nil | refine FLe.any ?_ | refine FLe.cons ?_ | refine FLe.eq (by rw [wrap_i64 (by omega)]; rfl) ?_)
       · conv => whnf
         exact ⟨⟨rfl, rfl⟩, trivial⟩
    · have hie : i = G.length := by
       simp only [iLt_eq, decide_eq_false_iff_not] at hlt
       omega
      subst hie
      conv => whnf
      repeat (first | (refine XSame.of ?_; conv => whnf) | (refine XDep.all _ _ _ _ ?_; conv => whnf))
      refine ⟨(), trivial, [0], ⟨by decide, by simp, rfl⟩, ?_, Ent.refl _⟩
      repeat (first | exact FLe.nil | refine FLe.any ?_ | refine FLe.cons ?_)
  · rw [cTail_add]
    exact hN bs2 hbs2

/-- What is asked of the kernel: the time, the record's length, the output, the accesses. -/
theorem tk9 (T z : Nat) (hz : z = 0) (hv8 : v8 = .int .i64 (T : Int)) (mc : List Value) (kl ka : Hd) (G : List UInt8) (hv9 : v9 = ka.v G.length) (hnow : S.now = (T : Int)) (hout : S.se.out = default) (hac : S.ac = default)
 (hD : ∀ w, D w → RowAt w (some ⟨bs, 0, none⟩) (staC S))
 (hN : ∀ bn, TkL w0 av 10 (tkTm (.pointer (some ⟨bk, 0, none⟩)) v8 v9 .any (.v (kl.v G.length))) [mc] ⟨fun w => (D w ∧ RowAt w (some ⟨bn, 0, none⟩) (staC S)) ∧ RowAt w (some ⟨bk, 0, none⟩) [.pointer (some ⟨bn, 0, none⟩)], []⟩) :
 TkL w0 av 9 (tkTm (.pointer (some ⟨bk, 0, none⟩)) v8 v9 .any (.v (kl.v G.length))) [mc] ⟨D, [advK bk bs]⟩ := by
 subst hv8
 subst hv9
 have h1 := now_spec S bk bs
 have h2 : PureSpec Tryz.prog 12 [.pointer (some ⟨bk, 0, none⟩)] (fun w => RowAt w (some ⟨bk, 0, none⟩) [.pointer (some ⟨bs, 0, none⟩)] ∧ RowAt w (some ⟨bs, 0, none⟩) (staC S)) (fun v F => v = Hd.nil.v z) := by
  subst hz
  exact output_nil S hout bk bs
 have h3 : RowsSpec Tryz.prog 13 [.pointer (some ⟨bk, 0, none⟩)] [advK bk bs] (fun w => RowAt w (some ⟨bs, 0, none⟩) (staC S))
  (fun v F => ∃ bn, v = Hd.nil.v z ∧ F = ⟨fun w => RowAt w (some ⟨bn, 0, none⟩) (staC S), [advK bk bn]⟩) := by
  subst hz
  exact accesses_nil S hac bk bs
 rw [hnow] at h1
 obtain ⟨nl, hnl⟩ : ∃ n, G.length = n := ⟨_, rfl⟩
 rw [hnl] at hN ⊢
 intro bs' hbs'
 match bs', hbs' with
 | [b0], _ =>
  obtain ⟨X, hX⟩ : ∃ X, staC S = X := ⟨_, rfl⟩
  rw [hX] at h1 h2 h3 hD hN
  refine XStop.cutN tabOk 1 (ι := Nat) (fun _ => True) (fun _ => tkTm (.pointer (some ⟨bk, 0, none⟩)) (.int .i64 (T : Int)) (ka.v nl) .any (.v (kl.v nl))) (fun _ => [mc]) (fun bn => ⟨fun w => (D w ∧ RowAt w (some ⟨bn, 0, none⟩) X) ∧ RowAt w (some ⟨bk, 0, none⟩) [.pointer (some ⟨bn, 0, none⟩)], []⟩) ?_ fun bn _ bs2 hbs2 => ?_
  · conv => whnf
    repeat (first | (refine XSame.of ?_; conv => whnf) | (refine XDep.all _ _ _ _ ?_; conv => whnf))
    refine XCall.look h1 ((Loc.row _ _).and (Loc.row _ _)) (fun w hst => ⟨(Sees.row (b := bk) (by simp [advK])) w hst, hD w hst.now⟩) ?_
    conv => whnf
    repeat (first | (refine XSame.of ?_; conv => whnf) | (refine XDep.all _ _ _ _ ?_; conv => whnf))
    rw [show iNe (T : Int) (T : Int) = false from by simp [iNe_eq]]
    conv => whnf
    repeat (first | (refine XSame.of ?_; conv => whnf) | (refine XDep.all _ _ _ _ ?_; conv => whnf))
    rw [show iNe (nl : Int) (nl : Int) = false from by simp [iNe_eq]]
    conv => whnf
    repeat (first | (refine XSame.of ?_; conv => whnf) | (refine XDep.all _ _ _ _ ?_; conv => whnf))
    refine XCall.look h2 ((Loc.row _ _).and (Loc.row _ _)) (fun w hst => ⟨(Sees.row (b := bk) (by simp [advK])) w hst, hD w hst.now⟩) ?_
    conv => whnf
    repeat (first | (refine XSame.of ?_; conv => whnf) | (refine XDep.all _ _ _ _ ?_; conv => whnf))
    rw [show iNe (z : Int) 0 = false from by simp [iNe_eq, hz]]
    conv => whnf
    repeat (first | (refine XSame.of ?_; conv => whnf) | (refine XDep.all _ _ _ _ ?_; conv => whnf))
    refine XCall.rows (r1 := []) (r2 := []) h3 hD (fun v F' hv => ?_)
    obtain ⟨bn, rfl, rfl⟩ := hv
    conv => whnf
    repeat (first | (refine XSame.of ?_; conv => whnf) | (refine XDep.all _ _ _ _ ?_; conv => whnf))
    refine XIf.no (by simp [iNe_eq, hz]) ?_
    conv => whnf
    repeat (first | (refine XSame.of ?_; conv => whnf) | (refine XDep.all _ _ _ _ ?_; conv => whnf))
    refine ⟨bn, trivial, [0], ⟨by decide, by simp, rfl⟩, ?_, Ent.trans (Ent.of_le (F' := ⟨fun w => D w ∧ RowAt w (some ⟨bn, 0, none⟩) X, [] ++ [(bk, Row.c [.pointer (some ⟨bn, 0, none⟩)])]⟩) ⟨by simp [advK], fun w hw => hw⟩) Ent.shareLast⟩
    repeat (first | exact FLe.nil | refine FLe.any ?_ | refine FLe.cons ?_)
  · rw [cTail_add]
    exact hN bn bs2 hbs2

/-- The record is asked for. -/
theorem tk8 (mc : List Value) (G : List UInt8) (hG : G.length ≤ 1000) (hrl : S.rc.l = G.map inE) (hrh : S.rc.h.Ok G.length)
 (hD : ∀ w, D w → RowAt w (some ⟨bs, 0, none⟩) (staC S) ∧ RowAt w S.rc.h.a ((G.map inE).flatMap enC))
 (hN : ∀ kl : Hd, kl.Ok G.length → TkL w0 av 9 (tkTm (.pointer (some ⟨bk, 0, none⟩)) v8 v9 .any (.v (kl.v G.length))) [mc] ⟨fun w => D w ∧ RowAt w kl.a ((G.map inE).flatMap enC), [advK bk bs]⟩) :
 TkL w0 av 8 (tkTm (.pointer (some ⟨bk, 0, none⟩)) v8 v9 .any .any) [mc] ⟨D, [advK bk bs]⟩ := by
 have hlen : S.rc.l.length = G.length := by rw [hrl]; simp
 have h1 := record_spec S bk bs (by rw [hrl]; intro x hx; obtain ⟨c, -, rfl⟩ := List.mem_map.1 hx; rfl) (by rw [hlen]; exact hrh) (by rw [hlen]; omega)
 rw [hlen, hrl] at h1
 obtain ⟨L, hL⟩ : ∃ L, (G.map inE).flatMap enC = L := ⟨_, rfl⟩
 rw [hL] at h1 hD hN
 intro bs' hbs'
 match bs', hbs' with
 | [b0], _ =>
  refine XStop.cutN tabOk 1 (ι := Hd) (fun k => k.Ok G.length) (fun kl => tkTm (.pointer (some ⟨bk, 0, none⟩)) v8 v9 .any (.v (kl.v G.length))) (fun _ => [mc]) (fun kl => ⟨fun w => D w ∧ RowAt w kl.a L, [advK bk bs]⟩) ?_ fun kl hkl bs2 hbs2 => ?_
  · conv => whnf
    repeat (first | (refine XSame.of ?_; conv => whnf) | (refine XDep.all _ _ _ _ ?_; conv => whnf))
    refine XCall.from h1 ((Loc.row _ _).and ((Loc.row _ _).and (Loc.row _ _))) (fun w hst => ⟨(Sees.row (b := bk) (by simp [advK])) w hst, hD w hst.now⟩) (fun v F' hv => ?_)
    obtain ⟨a, cap, C, hO, rfl, rfl⟩ := hv
    refine ⟨fun w => trivial, ?_⟩
    conv => whnf
    repeat (first | (refine XSame.of ?_; conv => whnf) | (refine XDep.all _ _ _ _ ?_; conv => whnf))
    refine ⟨⟨a, cap⟩, ⟨hO.none_nil, hO.fit⟩, [0], ⟨by decide, by simp, rfl⟩, ?_, Ent.trans (Ent.of_le (F' := ⟨D, [advK bk bs] ++ orow a C ++ []⟩) ⟨by simp [Fx.and], fun w hw => hw.1⟩) (Ent.trans (hO.share (r1 := [advK bk bs]) (r2 := [])) (Ent.of_le ⟨by simp, fun w hw => hw⟩))⟩
    repeat (first | exact FLe.nil | refine FLe.any ?_ | refine FLe.cons ?_)
  · rw [cTail_add]
    exact hN kl hkl bs2 hbs2
end
end Go.Proofs.YtakammghcodmgaaGreatDoor
namespace Go.Proofs.YtakammghcodmgaaGreatDoor
open Go Go.Sx
set_option maxRecDepth 100000
set_option maxHeartbeats 4000000
set_option linter.unusedVariables false
set_option linter.unusedSimpArgs false

structure TkX where
 i : Nat
 bs : Nat
 S : Sta
 a : Option Addr
 cap : Nat
 C : List Value
 rhg : Hd
 aa : Option Addr
 ac : Nat
 aC : List Value
def TkX.G (I : List UInt8) (x : TkX) : List UInt8 := (arrN I x.i).2.2
def TkX.In (I : List UInt8) (np T : Nat) (x : TkX) : Prop := x.i ≤ T ∧ TkOk I np x.i (arrN I x.i).1 (arrN I x.i).2.1 (x.G I) x.S ∧ x.S.rc.h = ⟨x.a, x.cap⟩ ∧ Sx.Owg 8 (x.G I).length x.a x.cap x.C (((x.G I).map inE).flatMap enC) ∧ x.rhg.Ok (x.G I).length ∧ Sx.Owg 1 (x.G I).length x.aa x.ac x.aC ((x.G I).map byteV)
def TkX.At (E : World → Prop) (DC I : List UInt8) (rhi : Hd) (x : TkX) (w : World) : Prop := E w ∧ (RowAt w (some ⟨x.bs, 0, none⟩) (staC x.S) ∧ TkAt DC I (x.G I) x.S w) ∧ (By w rhi I ∧ By w x.rhg (x.G I))
def TkX.F (E : World → Prop) (DC I : List UInt8) (rhi : Hd) (bk : Nat) (x : TkX) : Fx := ⟨x.At E DC I rhi, [advK bk x.bs] ++ orow x.a x.C ++ orow x.aa x.aC⟩

section
variable {w0 : World} {av : Nat → Prop}

theorem tk7 (bk bs : Nat) (S : Sta) (mc : List Value) (DC I : List UInt8) (np T : Nat) (hT : T ≤ 200) (rhi : Hd) (hro : rhi.Ok I.length) (E : World → Prop) (hS : TkOk I np 0 0 0 [] S) (hrc : S.rc.h = ⟨none, 0⟩)
 (hN : ∀ (bs : Nat) (S : Sta) (ka : Hd) (G : List UInt8), G = (arrN I T).2.2 → TkOk I np T (arrN I T).1 (arrN I T).2.1 G S → S.rc.h.Ok G.length → ka.Ok G.length → ∀ D : World → Prop, (∀ w, D w → E w ∧ (RowAt w (some ⟨bs, 0, none⟩) (staC S) ∧ TkAt DC I G S w) ∧ (RowAt w S.rc.h.a ((G.map inE).flatMap enC) ∧ By w ka G)) →
  TkL w0 av 8 (tkTm (.pointer (some ⟨bk, 0, none⟩)) (.int .i64 (T : Int)) (ka.v G.length) .any .any) [mc] ⟨D, [advK bk bs]⟩) :
 TkL w0 av 7 (tkTm (.pointer (some ⟨bk, 0, none⟩)) (.int .i64 (T : Int)) (.slice none 0 0) (.p 1 0) .any) [mc, serRI rhi I 0 0 Hd.nil [] false] ⟨fun w => E w ∧ (RowAt w (some ⟨bs, 0, none⟩) (staC S) ∧ TkAt DC I [] S w) ∧ By w rhi I, [advK bk bs]⟩ := by
 intro bs' hbs'
 match bs', hbs' with
 | [b0, b1], _ =>
  refine XStop.cutN tabOk 1 (ι := TkX) (fun x => x.i = T ∧ x.In I np T) (fun x => tkTm (.pointer (some ⟨bk, 0, none⟩)) (.int .i64 (T : Int)) (.slice x.aa (x.G I).length x.ac) .any .any) (fun _ => [mc]) (fun x => x.F E DC I rhi bk) ?_ fun x hx bs2 hbs2 => ?_
  · conv => whnf
    repeat (first | (refine XSame.of ?_; conv => whnf) | (refine XDep.all _ _ _ _ ?_; conv => whnf))
    refine XStop.loop tabOk (ι := TkX) ([9, 10, 11, 12] ++ List.range' 52 15) (fun x => x.In I np T) (fun x => [(52, .v (.int .i64 (x.i : Int))), (9, .v (.slice x.aa (x.G I).length x.ac))]) (fun x => [mc, serRI rhi I (arrN I x.i).1 (arrN I x.i).2.1 x.rhg (x.G I) false]) (fun x => x.F E DC I rhi bk) (fun x => T - x.i) ⟨0, bs, S, none, 0, [], Hd.nil, none, 0, []⟩ ⟨Nat.zero_le _, hS, hrc, Sx.Owg.nil 8, Hd.nil_ok, Sx.Owg.nil 1⟩ ?_ rfl (Ent.of_le ⟨by simp [TkX.F, orow], fun w hw => ⟨hw.1, hw.2.1, hw.2.2, By.nil w⟩⟩) fun x hx => ?_
    · conv => whnf
      repeat (first | exact FLe.nil | refine FLe.any ?_ | refine FLe.cons ?_)
    conv => whnf
    repeat (first | (refine XSame.of ?_; conv => whnf) | (refine XDep.all _ _ _ _ ?_; conv => whnf))
    obtain ⟨i, bs, S, a, cap, C, rhg, aa, ac, aC⟩ := x
    obtain ⟨hiT, hok, hrh, hO, hrg, hOa⟩ := hx
    dsimp only at hiT hok hrh
    have hlenG := arrN_len I i
    have hG : TkX.G I ⟨i, bs, S, a, cap, C, rhg, aa, ac, aC⟩ = (arrN I i).2.2 := rfl
    have hAt : TkX.At E DC I rhi ⟨i, bs, S, a, cap, C, rhg, aa, ac, aC⟩ = fun w => E w ∧ (RowAt w (some ⟨bs, 0, none⟩) (staC S) ∧ TkAt DC I (arrN I i).2.2 S w) ∧ (By w rhi I ∧ By w rhg (arrN I i).2.2) := rfl
    have hN1 : (arrN I (i + 1)) = ((arr I (arrN I i).1 (arrN I i).2.1).1, (arr I (arrN I i).1 (arrN I i).2.1).2.1, (arrN I i).2.2 ++ (arr I (arrN I i).1 (arrN I i).2.1).2.2) := rfl
    rw [hG] at hok hO hrg hOa
    have hAdv := advance_spec DC I np i (arrN I i).1 (arrN I i).2.1 (arrN I i).2.2 S hok (by omega) (by omega) bk bs a cap C hO hrh
    have hRef := refTick_idle rhi I (arrN I i).1 (arrN I i).2.1 rhg (arrN I i).2.2 false rfl hro hok.hI hok.hpos hok.hpa hok.hG hrg
    dsimp only [TkX.F]
    rw [hG, hAt]
    obtain ⟨st, hst⟩ : ∃ st, arrN I i = st := ⟨_, rfl⟩
    rw [hst] at hok hO hrg hOa hAdv hRef hlenG hN1 ⊢
    obtain ⟨pos, pa, G⟩ := st
    dsimp only at hok hO hrg hOa hAdv hRef hlenG hN1 ⊢
    obtain ⟨r, hr⟩ : ∃ r, arr I pos pa = r := ⟨_, rfl⟩
    have hout := (arr_len (I := I) (pos := pos) (pa := pa)).1
    rw [hr] at hAdv hRef hN1 hout
    refine XIf.split (fun hlt => ?_) (fun hlt => ?_)
    · have hlt' : i < T := by
       simp only [iLt_eq, decide_eq_true_eq] at hlt
       omega
      refine xc_skip ?_
      dsimp only
      refine xc_seqK fun K1 hn1 _ => ?_
      refine xc_blockK fun K2 hn2 _ _ => ?_
      refine xc_seqK fun K3 hn3 _ => ?_
      refine xc_region ?_
      conv => whnf
      repeat (first | (refine XSame.of ?_; conv => whnf) | (refine XDep.all _ _ _ _ ?_; conv => whnf))
      obtain ⟨D1, hD1⟩ : ∃ D1 : World → Prop, D1 = fun w => E w ∧ (RowAt w (some ⟨bs, 0, none⟩) (staC S) ∧ TkAt DC I G S w) ∧ (By w rhi I ∧ By w rhg G) := ⟨_, rfl⟩
      refine XCall.ent (F' := ⟨D1, [] ++ ([advK bk bs] ++ orow a C) ++ orow aa aC⟩) (Ent.of_le ⟨by simp, fun w hw => by rw [hD1]; exact hw⟩) ?_
      refine XCall.rows (r1 := []) (r2 := orow aa aC) hAdv (fun w hw => by rw [hD1] at hw; exact hw.2.1) (fun v F' hv => ?_)
      obtain ⟨bn, S', a', cap', C', hok', hrh', hO', rfl, hFD, hFr⟩ := hv
      obtain ⟨FD, Frs⟩ := F'
      dsimp only at hFD hFr
      subst hFr
      conv => whnf
      repeat (first | (refine XSame.of ?_; conv => whnf) | (refine XDep.all _ _ _ _ ?_; conv => whnf))
      refine hn3 _ _ _ _ ?_
      refine xc_seqK fun K4 hn4 _ => ?_
      refine xc_region ?_
      conv => whnf
      repeat (first | (refine XSame.of ?_; conv => whnf) | (refine XDep.all _ _ _ _ ?_; conv => whnf))
      refine XCall.pure hRef (fun w hw => by have h := hw.1; rw [hD1] at h; exact h.2.2) (fun v F hv => ?_)
      obtain ⟨rhg', k, a2, c2, hg'o, hko, rfl, rfl⟩ := hv
      conv => whnf
      repeat (first | (refine XSame.of ?_; conv => whnf) | (refine XDep.all _ _ _ _ ?_; conv => whnf))
      intro b3
      refine snocK_of ?_
      refine snocK_of ?_
      refine fin_of (by simp) ?_
      dsimp only [List.set_cons_succ, List.set_cons_zero, List.length_cons, List.length_nil, List.cons_append, List.nil_append, Nat.zero_add, Nat.reduceAdd]
      conv => whnf
      repeat (first | (refine XSame.of ?_; conv => whnf) | (refine XDep.all _ _ _ _ ?_; conv => whnf))
      refine hn4 _ _ _ _ ?_
      refine xc_seqK fun K5 hn5 _ => ?_
      refine xc_region ?_
      conv => whnf
      repeat (first | (refine XSame.of ?_; conv => whnf) | (refine XDep.all _ _ _ _ ?_; conv => whnf))
      refine hn5 _ _ _ _ ?_
      refine xc_region ?_
      conv => whnf
      repeat (first | (refine XSame.of ?_; conv => whnf) | (refine XDep.all _ _ _ _ ?_; conv => whnf))
      refine XVal.ent (F' := ⟨fun w => (D1 w ∧ FD w) ∧ (By w rhg' (G ++ r.2.2) ∧ By w k r.2.2), ([advK bk bn] ++ orow a' C') ++ orow aa aC ++ []⟩) (Ent.of_le ⟨by simp [Fx.and], fun w hw => hw⟩) ?_
      refine XVal.append tabOk (t := 22) (xt := 22) rfl rfl rfl rfl rfl rfl (M := r.2.2.map byteV) hOa (Sees.fact fun w hw => hw.2.2) (by simp) byte_one (by omega) (by show (2 * (G.length + r.2.2.length) + 1000) * 1 ≤ 2 ^ 48; omega) fun aa' ac' aC' hOa' => ?_
      conv => whnf
      repeat (first | (refine XSame.of ?_; conv => whnf) | (refine XDep.all _ _ _ _ ?_; conv => whnf))
      refine hn2 _ _ _ _ (hn1 _ _ _ _ ?_)
      refine xc_region ?_
      conv => whnf
      repeat (first | (refine XSame.of ?_; conv => whnf) | (refine XDep.all _ _ _ _ ?_; conv => whnf))
      have hx' : TkX.In I np T ⟨i + 1, bn, S', a', cap', C', rhg', aa', ac', aC'⟩ := by
       refine ⟨hlt', ?_, hrh', ?_, ?_, ?_⟩
       · show TkOk I np (i + 1) (arrN I (i + 1)).1 (arrN I (i + 1)).2.1 (arrN I (i + 1)).2.2 S'
         rw [hN1]
         exact hok'
       · show Sx.Owg 8 (arrN I (i + 1)).2.2.length a' cap' C' (((arrN I (i + 1)).2.2.map inE).flatMap enC)
         rw [hN1]
         exact hO'
       · show rhg'.Ok (arrN I (i + 1)).2.2.length
         rw [hN1]
         exact hg'o
       · show Sx.Owg 1 (arrN I (i + 1)).2.2.length aa' ac' aC' ((arrN I (i + 1)).2.2.map byteV)
         rw [hN1]
         show Sx.Owg 1 (G ++ r.2.2).length aa' ac' aC' ((G ++ r.2.2).map byteV)
         rw [List.length_append, List.map_append]
         exact hOa'
      have hG' : TkX.G I ⟨i + 1, bn, S', a', cap', C', rhg', aa', ac', aC'⟩ = G ++ r.2.2 := by
       show (arrN I (i + 1)).2.2 = _
       rw [hN1]
      have hlenG' : (TkX.G I ⟨i + 1, bn, S', a', cap', C', rhg', aa', ac', aC'⟩).length = G.length + r.2.2.length := by rw [hG', List.length_append]
      refine ⟨⟨i + 1, bn, S', a', cap', C', rhg', aa', ac', aC'⟩, ⟨hx', by dsimp only; omega⟩, ?_, ?_, ?_⟩
      · dsimp only
        rw [hlenG']
        conv => whnf
        refine ⟨?_, rfl⟩
        repeat (first | exact FLe.nil | refine FLe.any ?_ | refine FLe.cons ?_ | refine FLe.eq (by rw [wrap_i64 (by omega)]; rfl) ?_)
      · show BLe _ _ _ [mc, serRI rhi I (arrN I (i + 1)).1 (arrN I (i + 1)).2.1 rhg' (TkX.G I ⟨i + 1, bn, S', a', cap', C', rhg', aa', ac', aC'⟩) false]
        rw [hG', hN1]
        conv => whnf
        exact ⟨⟨rfl, rfl⟩, ⟨rfl, rfl⟩, trivial⟩
      · refine Ent.of_le ⟨by simp [TkX.F], fun w hw => ?_⟩
        obtain ⟨⟨hw1, hw2⟩, hw3, hw4⟩ := hw
        rw [hD1] at hw1
        have h5 := hFD w hw2
        refine ⟨hw1.1, ?_, hw1.2.2.1, ?_⟩
        · rw [hG']
          exact h5
        · rw [hG']
          exact hw3
    · have hie : i = T := by
       simp only [iLt_eq, decide_eq_false_iff_not] at hlt
       omega
      conv => whnf
      repeat (first | (refine XSame.of ?_; conv => whnf) | (refine XDep.all _ _ _ _ ?_; conv => whnf))
      have hG' : TkX.G I ⟨i, bs, S, a, cap, C, rhg, aa, ac, aC⟩ = G := by
       show (arrN I i).2.2 = _
       rw [hst]
      refine ⟨⟨i, bs, S, a, cap, C, rhg, aa, ac, aC⟩, ⟨hie, hiT, ?_, hrh, ?_, ?_, ?_⟩, [0], ⟨by decide, by simp, rfl⟩, ?_, ?_⟩
      · show TkOk I np i (arrN I i).1 (arrN I i).2.1 (arrN I i).2.2 S
        rw [hst]
        exact hok
      · rw [hG']
        exact hO
      · rw [hG']
        exact hrg
      · rw [hG']
        exact hOa
      · show FLe _ (tkTm (.pointer (some ⟨bk, 0, none⟩)) (.int .i64 (T : Int)) (.slice aa (TkX.G I ⟨i, bs, S, a, cap, C, rhg, aa, ac, aC⟩).length ac) .any .any)
        rw [hG']
        repeat (first | exact FLe.nil | refine FLe.any ?_ | refine FLe.cons ?_)
      · refine Ent.of_le ⟨by simp [TkX.F], fun w hw => ?_⟩
        refine ⟨hw.1, ?_, hw.2.2.1, ?_⟩
        · rw [hG']
          exact hw.2.1
        · rw [hG']
          exact hw.2.2.2
  · rw [cTail_add]
    obtain ⟨i, bs, S, a, cap, C, rhg, aa, ac, aC⟩ := x
    obtain ⟨hiT, -, hok, hrh, hO, hrg, hOa⟩ := hx
    dsimp only at hiT hok hrh
    subst hiT
    have hG : TkX.G I ⟨i, bs, S, a, cap, C, rhg, aa, ac, aC⟩ = (arrN I i).2.2 := rfl
    rw [hG] at hok hO hrg hOa ⊢
    have h8 := hN bs S ⟨aa, ac⟩ _ rfl hok (by rw [hrh]; exact ⟨hO.none_nil, hO.fit⟩) ⟨hOa.none_nil, hOa.fit⟩ (fun w => ((TkX.At E DC I rhi ⟨i, bs, S, a, cap, C, rhg, aa, ac, aC⟩ w) ∧ RowAt w a (((arrN I i).2.2.map inE).flatMap enC)) ∧ RowAt w aa ((arrN I i).2.2.map byteV)) (fun w hw => ⟨hw.1.1.1, hw.1.1.2.1, by rw [hrh]; exact hw.1.2, hw.2⟩) bs2 hbs2
    refine XStop.ent ?_ h8
    refine Ent.trans (Ent.of_le (F' := ⟨TkX.At E DC I rhi ⟨i, bs, S, a, cap, C, rhg, aa, ac, aC⟩, [advK bk bs] ++ orow a C ++ (orow aa aC)⟩) ⟨by simp [TkX.F], fun w hw => hw⟩) (Ent.trans (Sx.Owg.share (r1 := [advK bk bs]) (r2 := orow aa aC) (show Sx.Owg 8 (arrN I i).2.2.length a cap C (((arrN I i).2.2.map inE).flatMap enC) from hO)) ?_)
    exact Ent.trans (Ent.of_le (F' := ⟨fun w => TkX.At E DC I rhi ⟨i, bs, S, a, cap, C, rhg, aa, ac, aC⟩ w ∧ RowAt w a (((arrN I i).2.2.map inE).flatMap enC), [advK bk bs] ++ orow aa aC ++ []⟩) ⟨by simp, fun w hw => hw⟩) (Ent.trans (Sx.Owg.share (r1 := [advK bk bs]) (r2 := []) (show Sx.Owg 1 (arrN I i).2.2.length aa ac aC ((arrN I i).2.2.map byteV) from hOa)) (Ent.of_le ⟨by simp, fun w hw => hw⟩))
end
end Go.Proofs.YtakammghcodmgaaGreatDoor
namespace Go.Proofs.YtakammghcodmgaaGreatDoor
open Go Go.Sx
set_option maxRecDepth 100000
set_option maxHeartbeats 4000000
set_option linter.unusedVariables false
set_option linter.unusedSimpArgs false

theorem newM_ok {nx : Int} {cl : List Cp} {DC IN : List UInt8} {np : Nat} (y : Bm) (hq : Hd) (hy : y.Ok DC IN np) (hti : y.x.ti.l = ti0) (hI : IN.length ≤ 4000) (hnp : np ≤ 200) : TkOk IN np 0 0 0 [] (y.sta tskE ⟨hq, quB 10 ++ [16]⟩) := by
 obtain ⟨k, hse, hk⟩ := hy.se
 obtain ⟨kp, hlk⟩ := hy.lk
 exact ⟨rfl, rfl, rfl, rfl, rfl, rfl, ⟨kp, hlk⟩, ⟨k, Hd.nil, hse, hk, Hd.nil_ok⟩, rfl, hy.bkh, hy.bk, rfl, Hd.nil_ok, rfl, Hd.nil_ok, hti, (by have h := hy.ti; rw [hti] at h; exact h), rfl, Nat.zero_le _, by decide, Nat.le_refl _, hI, hnp⟩
theorem newM_at {DC IN : List UInt8} (y : Bm) (hq : Hd) (w : World) (hse : ∃ k, y.se = serI k IN 0 0 Hd.nil [] ∧ k.Ok IN.length) (h : y.At DC IN w) : TkAt DC IN [] (y.sta tskE ⟨hq, quB 10 ++ [16]⟩) w := by
 obtain ⟨h1, h2, h3, h4⟩ := h
 obtain ⟨k, hs, -⟩ := hse
 refine ⟨RowAt.none' _, RowAt.none' _, h2, h3, h4, ?_⟩
 show By w y.se.got.h []
 rw [hs]
 exact By.nil w

theorem ticks_spec (hc hi hp : Hd) (DC IN PT : List UInt8) (hco : hc.Ok DC.length) (hio : hi.Ok IN.length) (hpo : hp.Ok PT.length) (n : Nat) (hn : n < 256) :
 PureSpec Tryz.prog 3 [.agg ⟨mCells hc hi hp DC.length IN.length PT.length⟩, .int .u8 (n : Int)] (fun w => By w hc DC ∧ By w hi IN ∧ By w hp PT) (fun v F => v = .bool true) := by
 have hfew := mfew_spec hc hi hp DC.length IN.length PT.length
 have hnew := newM_spec ((capsB.length + 1 : Nat) : Int) capsB (by rw [capsB_len]; decide) bootB_spec hc hi hp DC IN PT hco hio hpo
 refine PureSpec.of_stop tabOk Tryz.func3 (c := tkC) rfl (by decide) (n := Tryz.f3.ntmps - 2) rfl fun w0 av => ?_
 show XStop Tryz.prog w0 (fun _ _ => False) av tkC ([SV.v (.agg ⟨mCells hc hi hp DC.length IN.length PT.length⟩), .v (.int .u8 (n : Int))] ++ List.replicate 172 .any) [] [] _ tkEnd
 refine XStop.cutN tabOk 2 (ι := Unit) (fun _ => DC.length ≤ 21000 ∧ IN.length ≤ 4100 ∧ PT.length ≤ 300) (fun _ => [.any, .v (.int .u8 (n : Int)), .p 0 0] ++ List.replicate 171 .any) (fun _ => [mCells hc hi hp DC.length IN.length PT.length]) (fun _ => ⟨fun w => By w hc DC ∧ By w hi IN ∧ By w hp PT, []⟩) ?_ fun _ hsm bs1 hbs1 => ?_
 · obtain ⟨q, hq⟩ : ∃ q, (decide (DC.length ≤ 21000) && decide (IN.length ≤ 4100) && decide (PT.length ≤ 300)) = q := ⟨_, rfl⟩
   rw [hq] at hfew
   conv => whnf
   repeat (first | (refine XSame.of ?_; conv => whnf) | (refine XDep.all _ _ _ _ ?_; conv => whnf))
   intro b0
   conv => whnf
   repeat (first | (refine XSame.of ?_; conv => whnf) | (refine XDep.all _ _ _ _ ?_; conv => whnf))
   refine XCall.val awakeN_spec (fun w hw => trivial) (fun v F hv => ?_)
   subst hv
   conv => whnf
   repeat (first | (refine XSame.of ?_; conv => whnf) | (refine XDep.all _ _ _ _ ?_; conv => whnf))
   refine XCall.val hfew (fun w hw => trivial) (fun v F hv => ?_)
   subst hv
   cases q
   · conv => whnf
     repeat (first | (refine XSame.of ?_; conv => whnf) | (refine XDep.all _ _ _ _ ?_; conv => whnf))
     refine XCall.val awakeN_spec (fun w hw => trivial) (fun v F hv => ?_)
     subst hv
     conv => whnf
     repeat (first | (refine XSame.of ?_; conv => whnf) | (refine XDep.all _ _ _ _ ?_; conv => whnf))
     exact ⟨_, Ent.refl _, rfl⟩
   · conv => whnf
     repeat (first | (refine XSame.of ?_; conv => whnf) | (refine XDep.all _ _ _ _ ?_; conv => whnf))
     refine ⟨(), ?_, [0], ⟨by decide, by simp, rfl⟩, ?_, Ent.refl _⟩
     · simp only [Bool.and_eq_true, decide_eq_true_eq] at hq
       exact ⟨hq.1.1, hq.1.2, hq.2⟩
     · repeat (first | exact FLe.nil | refine FLe.any ?_ | refine FLe.cons ?_)
 · obtain ⟨hs1, hs2, hs3⟩ := hsm
   have hnew := hnew (by omega) (by omega) (by omega)
   have href := refNew_spec hi IN hio (by omega)
   obtain ⟨MC, hMC⟩ : ∃ x, mCells hc hi hp DC.length IN.length PT.length = x := ⟨_, rfl⟩
   obtain ⟨T, hT⟩ : ∃ T, n % 201 = T := ⟨_, rfl⟩
   have hT2 : T ≤ 200 := by omega
   have htm : (IntKind.i64.wrap (n : Int)).tmod (Int.ofNat (200 + 1)) = (T : Int) := by
    rw [← hT]
    exact tmod_nat n hn
   refine XStop.cutN tabOk 5 (ι := Nat × Nat × Sta × Hd) (fun x => (DC.length ≤ 20480 ∧ IN.length ≤ 4000 ∧ PT.length ≤ 200) ∧ TkOk IN PT.length 0 0 0 [] x.2.2.1 ∧ x.2.2.1.rc.h = ⟨none, 0⟩ ∧ x.2.2.2.Ok IN.length) (fun x => tkTm (.pointer (some ⟨x.1, 0, none⟩)) (.int .i64 (T : Int)) (.slice none 0 0) (.p 1 0) .any) (fun x => [mCells hc hi hp DC.length IN.length PT.length, serRI x.2.2.2 IN 0 0 Hd.nil [] false])
    (fun x => ⟨fun w => By w hc DC ∧ (RowAt w (some ⟨x.2.1, 0, none⟩) (staC x.2.2.1) ∧ TkAt DC IN [] x.2.2.1 w) ∧ By w x.2.2.2 IN, [advK x.1 x.2.1]⟩) ?_ fun x hx bs2 hbs2 => ?_
   · match bs1, hbs1 with
     | [b0], _ =>
      conv => whnf
      repeat (first | (refine XSame.of ?_; conv => whnf) | (refine XDep.all _ _ _ _ ?_; conv => whnf))
      refine XCall.pure hnew (fun w hw => hw) (fun v F hv => ?_)
      rcases hv with ⟨hbad, rfl, rfl⟩ | ⟨hgood, y, hq, bk, bs, hnx, hcl, hti, hy, hqo, rfl, rfl⟩
      · conv => whnf
        repeat (first | (refine XSame.of ?_; conv => whnf) | (refine XDep.all _ _ _ _ ?_; conv => whnf))
        refine XCall.pure href (fun w hw => hw.1.2.1) (fun v F hv => ?_)
        obtain ⟨k, X, e, rfl, he1, he2, rfl⟩ := hv
        conv => whnf
        repeat (first | (refine XSame.of ?_; conv => whnf) | (refine XDep.all _ _ _ _ ?_; conv => whnf))
        intro b1
        refine snocK_of ?_
        refine snocK_of ?_
        refine fin_of (by simp) ?_
        dsimp only [List.set_cons_succ, List.set_cons_zero, List.length_cons, List.length_nil, List.cons_append, List.nil_append, Nat.zero_add, Nat.reduceAdd]
        conv => whnf
        repeat (first | (refine XSame.of ?_; conv => whnf) | (refine XDep.all _ _ _ _ ?_; conv => whnf))
        refine XVal.of_read (XRead.ptrNil tabOk (t := 26) rfl rfl ?_)
        conv => whnf
        repeat (first | (refine XSame.of ?_; conv => whnf) | (refine XDep.all _ _ _ _ ?_; conv => whnf))
        refine XVal.of_read (XRead.ptrNil tabOk (t := 26) rfl rfl ?_)
        conv => whnf
        repeat (first | (refine XSame.of ?_; conv => whnf) | (refine XDep.all _ _ _ _ ?_; conv => whnf))
        exact ⟨_, Ent.refl _, rfl⟩
      · conv => whnf
        repeat (first | (refine XSame.of ?_; conv => whnf) | (refine XDep.all _ _ _ _ ?_; conv => whnf))
        refine XCall.pure href (fun w hw => hw.1.2.1) (fun v F hv => ?_)
        obtain ⟨k, X, e, rfl, he1, he2, rfl⟩ := hv
        obtain ⟨rfl, he, hk⟩ := he1 hgood.2.1
        conv => whnf
        repeat (first | (refine XSame.of ?_; conv => whnf) | (refine XDep.all _ _ _ _ ?_; conv => whnf))
        intro b1
        refine snocK_of ?_
        refine snocK_of ?_
        refine fin_of (by simp) ?_
        dsimp only [List.set_cons_succ, List.set_cons_zero, List.length_cons, List.length_nil, List.cons_append, List.nil_append, Nat.zero_add, Nat.reduceAdd]
        conv => whnf
        repeat (first | (refine XSame.of ?_; conv => whnf) | (refine XDep.all _ _ _ _ ?_; conv => whnf))
        refine XVal.of_read (XRead.ptrNil tabOk (t := 26) rfl rfl ?_)
        conv => whnf
        repeat (first | (refine XSame.of ?_; conv => whnf) | (refine XDep.all _ _ _ _ ?_; conv => whnf))
        refine XIf.no (by simp [iNe_eq, he]) ?_
        conv => whnf
        repeat (first | (refine XSame.of ?_; conv => whnf) | (refine XDep.all _ _ _ _ ?_; conv => whnf))
        rw [htm]
        refine ⟨(bk, bs, y.sta tskE ⟨hq, quB 10 ++ [16]⟩, k), ⟨hgood, newM_ok (nx := 0) (cl := []) y hq hy hti hgood.2.1 hgood.2.2, rfl, hk⟩, [0, 1], ⟨by decide, by simp, rfl⟩, ?_, Ent.of_le ⟨by simp [Fx.and, advK], fun w hw => ?_⟩⟩
        · repeat (first | exact FLe.nil | refine FLe.any ?_ | refine FLe.cons ?_)
        · exact ⟨hw.1.1.1, ⟨hw.1.2.2, newM_at y hq w hy.se hw.1.2.1.1⟩, hw.2 hgood.2.1⟩
   · obtain ⟨bk, bs, S, rhi⟩ := x
     obtain ⟨hgood, hok, hrc, hro⟩ := hx
     dsimp only at hok hrc hro
     rw [cTail_add]
     refine tk7 bk bs S _ DC IN PT.length T hT2 rhi hro _ hok hrc (fun bs' S' ka G hG hok' hrh' hka D hD => ?_) bs2 hbs2
     have hGl : G.length ≤ 1000 := by
      have := arrN_len IN T
      rw [← hG] at this
      omega
     refine tk8 (S := S') (bs := bs') _ G hGl hok'.rc hrh' (fun w hw => ⟨(hD w hw).2.1.1, (hD w hw).2.2.1⟩) fun kl hkl => ?_
     refine tk9 (S := S') (bs := bs') T 0 rfl rfl _ kl ka G rfl hok'.now ?_ hok'.ac (fun w hw => (hD w hw.1).2.1.1) fun bn => ?_
     · obtain ⟨hi', hg', hse, -, -⟩ := hok'.se
       rw [hse]
       rfl
     refine tk10 _ kl ka G rfl hkl hka hGl (fun w hw => ⟨hw.1.1.2, (hD w hw.1.1.1).2.2.2⟩) ?_
     refine tk11 (S := S') (bs := bn) T rfl _ hok'.D hok'.q hok'.qh (fun w hw => ⟨hw.2, hw.1.2, (hD w hw.1.1.1).2.1.2.1⟩) ?_
     exact tk12 (S := S') (bs := bn) hc hi hp IN.length PT.length DC hco hgood.1 hok'.bkh hok'.bk fun w hw => ⟨⟨hw.2, hw.1.2, (hD w hw.1.1.1).2.1.2.2.2.2.1⟩, (hD w hw.1.1.1).1⟩

end Go.Proofs.YtakammghcodmgaaGreatDoor
namespace Go.Proofs.YtakammghcodmgaaGreatDoor
open Go Go.Sx Go.ChangeShapes Go.WideShapes
set_option maxRecDepth 100000
set_option maxHeartbeats 2000000
set_option linter.unusedVariables false
set_option linter.unusedSimpArgs false

section
variable {H : Type} {enc : TypeId × Value → H} {w : World} {base : Nat} {spare : Nat → Bool} {held : Bool}

def byC (x : UInt8) : List Value := [byteV x]
theorem op_byte : Op enc w base spare held 5 1 byC fun _ => True := by
 refine ⟨cellsOf_tab tabOk (t := 5) rfl, fun m cs x h hl _ => ?_⟩
 obtain ⟨v, rfl⟩ := one_of hl
 obtain ⟨z, h1, _, hw⟩ := DataW.trod_int Tryz.underlying5 h
 cases h1
 obtain ⟨y, hy⟩ := byte_of hw
 exact ⟨y, by rw [hy]; rfl, trivial⟩
theorem op_byteS : Op enc w base spare held 22 1 (slC (β := UInt8)) (SlG w byC 1 (fun _ => True)) :=
 op_slice (t := 22) Tryz.underlying22 (by kernel_rfl) (by kernel_rfl) (by decide) op_byte

theorem byC_map (l : List UInt8) : l.flatMap byC = l.map byteV := by
 induction l with
 | nil => rfl
 | cons x l ih => rw [List.flatMap_cons, ih]; rfl

/-- A machine as plain data. -/
structure Mch where
 c : Sl UInt8
 i : Sl UInt8
 p : Sl UInt8
def mchC (x : Mch) : List Value := [x.c.v, x.i.v, x.p.v]
def MchG (w : World) (x : Mch) : Prop := SlG w byC 1 (fun _ => True) x.c ∧ SlG w byC 1 (fun _ => True) x.i ∧ SlG w byC 1 (fun _ => True) x.p

theorem op_mach : Op enc w base spare held 24 3 (β := Mch) mchC (MchG w) := by
 refine ⟨cellsOf_tab tabOk (t := 24) rfl, fun m cs x h hl hw => ?_⟩
 obtain ⟨b0, e0, g0⟩ := op_field (o := 0) (n := 1) Tryz.underlying24 h hw 0 rfl op_byteS (by omega)
 obtain ⟨b1, e1, g1⟩ := op_field (o := 1) (n := 1) Tryz.underlying24 h hw 1 rfl op_byteS (by omega)
 obtain ⟨b2, e2, g2⟩ := op_field (o := 2) (n := 1) Tryz.underlying24 h hw 2 rfl op_byteS (by omega)
 exact ⟨⟨b0, b1, b2⟩, (List.drop_zero (l := cs)).symm.trans (chain e0 (chain e1 (chain e2 (List.drop_eq_nil_of_le (by omega))))), g0, g1, g2⟩

variable {r : Reach} {b0 : Nat}

theorem open_mach {v : Value} {d : DataW H} {p : List MemPlace} {ts : List TypeId} {ds : List (DataW H)} {j : Nat} (hv : Value.okWide Tryz.prog w r b0 24 v) (h : DataW.Trod enc Tryz.prog w base spare held 24 v d p)
 (hz : (DataW.weightsEach Tryz.prog ts ds).all (· ≤ reachBytes) = true) (ht : ts[j]? = some 24) (hd : ds[j]? = some d) : ∃ x : Mch, v = .agg ⟨mchC x⟩ ∧ MchG w x := by
 obtain ⟨q, hq⟩ := h
 simp only [Value.okWide, Tryz.underlying24] at hv
 obtain ⟨⟨cs⟩, rfl, hsz, hr⟩ := hv
 have ho := op_mach (enc := enc) (w := w) (base := base) (spare := spare) (held := held)
 rw [ho.cells] at hsz
 obtain ⟨s, hs, hin⟩ := ho.get q cs _ hq hsz fun k hk => by
  have := List.all_eq_true.1 hz k (DataW.weights_mem_each ht hd k hk)
  simpa using this
 exact ⟨s, by rw [hs], hin⟩

theorem open_small {v : Value} {d : DataW H} {p : List MemPlace} (hv : Value.okWide Tryz.prog w r b0 5 v) (h : DataW.Trod enc Tryz.prog w base spare held 5 v d p) : ∃ a : Nat, v = .int .u8 a ∧ a < 256 := by
 obtain ⟨q, hq⟩ := h
 have hv2 : v.cells.toList = [v] := by
  have hc : Cell.okWide Tryz.prog w r b0 5 v := by simpa only [Value.okWide, Tryz.underlying5] using hv
  cases v <;> first | rfl | (simp [Cell.okWide, Cell.ok, Tryz.underlying5] at hc)
 rw [hv2] at hq
 obtain ⟨z, h1, _, hw⟩ := DataW.trod_int Tryz.underlying5 hq
 cases h1
 have hb := bounds_u8 hw
 refine ⟨z.toNat, ?_, by omega⟩
 congr 1
 omega
end

end Go.Proofs.YtakammghcodmgaaGreatDoor
