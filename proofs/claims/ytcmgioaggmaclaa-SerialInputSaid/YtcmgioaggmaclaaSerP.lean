/- Serial, part P: the law's helpers own, answer. -/
import Derived.Test.YtcmgioaggmaclaaSerO
namespace Go.Proofs.Ytcmgioaggmaclaa
open Go Go.Sx
set_option maxRecDepth 100000
set_option maxHeartbeats 2000000
set_option linter.unusedVariables false
set_option linter.unusedSimpArgs false

theorem ansCells_drop (l : List (Ans × Hd)) (i : Nat) : (ansCells l).drop (i * 3) = ansCells (l.drop i) := by
  induction i generalizing l with
  | zero => simp
  | succ i ih =>
    cases l with
    | nil => simp [ansCells]
    | cons p l =>
      have e : ansCells (p :: l) = p.1.cells p.2 ++ ansCells l := rfl
      have e2 : (i + 1) * 3 = (p.1.cells p.2).length + i * 3 := by simp [Ans.cells]; omega
      rw [e, e2, List.drop_length_add_append, ih]
      rfl

theorem ansCells_get (l : List (Ans × Hd)) {i : Nat} (h : i < l.length) : ((ansCells l).drop (i * 3)).take 3 = l[i].1.cells l[i].2 := by
  rw [ansCells_drop, List.drop_eq_getElem_cons h]
  rfl

theorem ansCells_tag (l : List (Ans × Hd)) {i : Nat} (h : i < l.length) : (ansCells l)[i * 3]? = some (.int .i64 l[i].1.tag) := by
  have h1 := ansCells_get l h
  have h2 : (((ansCells l).drop (i * 3)).take 3)[0]? = (l[i].1.cells l[i].2)[0]? := by rw [h1]
  rw [List.getElem?_take_of_lt (by omega), List.getElem?_drop] at h2
  simpa [Ans.cells] using h2

theorem ansCells_snoc (l : List (Ans × Hd)) {i : Nat} (h : i < l.length) : ansCells (l.take (i + 1)) = ansCells (l.take i) ++ l[i].1.cells l[i].2 := by
  rw [List.take_succ_eq_append_getElem h, ansCells_append]
  simp [ansCells]

/-- A slice of the same answers. -/
def RelA (l : List (Ans × Hd)) (v : Value) (F : Fx) : Prop := ∃ k : Hd, v = k.v l.length ∧ k.Ok l.length ∧ F = ⟨fun w => AnsAt w k l, []⟩

theorem own_spec (ka : Hd) (l : List (Ans × Hd)) (hk : ka.Ok l.length) (hl : l.length ≤ 1000) : PureSpec Try.prog 19 [ka.v l.length] (fun w => AnsAt w ka l) (RelA l) := by
  refine PureSpec.of_xc tabOk Try.func19 rfl (by decide) (n := Try.f19.ntmps - 1) rfl rfl fun w0 av => ?_
  conv => whnf
  refine XStop.loop tabOk (ι := Nat × Option Addr × Nat × List Value) [3, 4, 7, 8, 9, 10, 11, 12, 13, 14, 15, 16, 17] (fun x => x.1 ≤ l.length ∧ Own 3 x.1 x.2.1 x.2.2.1 x.2.2.2 (ansCells (l.take x.1)))
    (fun x => [(3, .v (.slice x.2.1 x.1 x.2.2.1)), (7, .v (.int .i64 (x.1 : Int)))]) (fun _ => []) (fun x => ⟨fun w => AnsAt w ka l, orow x.2.1 x.2.2.2⟩)
    (fun x => l.length - x.1) (0, none, 0, []) ⟨by simp, Own.nil 3⟩ ?_ rfl (Ent.refl _) fun x hi => ?_
  · conv => whnf
    repeat (first | exact FLe.nil | refine FLe.any ?_ | refine FLe.cons ?_)
  · obtain ⟨i, a, cap, C⟩ := x
    obtain ⟨hi1, hO⟩ := hi
    conv => whnf
    refine XIf.split (fun hlt => ?_) (fun hge => ?_)
    · conv => whnf
      have hlt' : i < l.length := by
        have : (i : Int) < l.length := by simpa [iLt_eq] using hlt
        omega
      refine XVal.of_read (XRead.index tabOk (t := 44) rfl rfl rfl (by dsimp only; omega) (by dsimp only; omega) hk.nil fun ad had => ?_)
      conv => whnf
      refine XVal.of_read (XRead.loads tabOk (t := 34) rfl rfl (ad := ad) (k := i * 3) (L := ansCells l) (fun w hst => had ▸ hst.now.1) rfl (ansCells_get l hlt') rfl ?_)
      conv => whnf
      refine XVal.build tabOk (t := 48) rfl rfl rfl [.agg ⟨l[i].1.cells l[i].2⟩] rfl rfl (ans_sz _ _) (by decide) fun b => ?_
      conv => whnf
      refine XVal.append tabOk (t := 48) (xt := 48) rfl rfl rfl rfl rfl rfl (r1 := []) (r2 := [(b, l[i].1.cells l[i].2)]) (M := l[i].1.cells l[i].2) hO (Sees.row (by simp)) rfl (ans_one _ _) (by omega) (by simp; omega) fun a' cap' C' hO' => ?_
      conv => whnf
      refine ⟨(i + 1, a', cap', C'), ⟨⟨hlt', by rw [ansCells_snoc l hlt']; exact hO'⟩, by dsimp only; omega⟩, ?_, trivial, ?_⟩
      · conv => whnf
        refine ⟨?_, rfl⟩
        repeat (first | exact FLe.nil | refine FLe.any ?_ | refine FLe.cons ?_ | refine FLe.eq (by rw [wrap_i64 (by omega)]; rfl) ?_)
      · exact Ent.of_le ⟨by simp, fun _ h => h⟩
    · conv => whnf
      have hge' : l.length ≤ i := by
        have : ¬ (i : Int) < l.length := by simpa [iLt_eq] using hge
        omega
      have hii : i = l.length := by simp only at hi1; omega
      subst hii
      rw [List.take_of_length_le (Nat.le_refl _)] at hO
      refine ⟨⟨fun w => AnsAt w ⟨a, cap⟩ l, []⟩, ?_, ⟨a, cap⟩, rfl, ⟨hO.none_nil, hO.fit⟩, rfl⟩
      have := Own.share (r1 := []) (r2 := []) hO (D := fun w => AnsAt w ka l)
      simp only [List.nil_append, List.append_nil] at this
      exact this.trans (Ent.imp fun w hw => ⟨hw.2, hw.1.2⟩)

/-- The answer with a tag. -/
def ansOf (l : List Ans) (tag : Int) : Ans × Bool := match l.find? (fun a => iEq a.tag tag) with
  | some a => (a, true)
  | none => (.zero, false)

def RelAF (r : Ans × Bool) (v : Value) (F : Fx) : Prop := ∃ k : Hd, v = .tuple #[.agg ⟨r.1.cells k⟩, .bool r.2] ∧ k.Ok r.1.data.length ∧ F = ⟨fun w => By w k r.1.data, []⟩

theorem ansOf_hit {l : List (Ans × Hd)} {tag : Int} {i : Nat} (h : i < l.length) (hp : ∀ p ∈ l.take i, iEq p.1.tag tag = false) (hi : iEq l[i].1.tag tag = true) : ansOf (l.map (·.1)) tag = (l[i].1, true) := by
  have : (l.map (·.1)).find? (fun a => iEq a.tag tag) = some l[i].1 := by
    have e : l = l.take i ++ l[i] :: l.drop (i + 1) := by simp
    generalize l[i] = q at e hi ⊢
    rw [e, List.map_append, List.find?_append]
    have h1 : ((l.take i).map (·.1)).find? (fun a => iEq a.tag tag) = none := by
      rw [List.find?_eq_none]
      intro x hx
      obtain ⟨p, hp1, rfl⟩ := List.mem_map.1 hx
      simp [hp p hp1]
    rw [h1]
    simp [hi]
  rw [ansOf, this]

theorem ansOf_miss {l : List (Ans × Hd)} {tag : Int} (hp : ∀ p ∈ l, iEq p.1.tag tag = false) : ansOf (l.map (·.1)) tag = (.zero, false) := by
  have : (l.map (·.1)).find? (fun a => iEq a.tag tag) = none := by
    rw [List.find?_eq_none]
    intro x hx
    obtain ⟨p, hp1, rfl⟩ := List.mem_map.1 hx
    simp [hp p hp1]
  rw [ansOf, this]

theorem answer_spec (ka : Hd) (l : List (Ans × Hd)) (tag : Int) (hk : ka.Ok l.length) (hl : l.length ≤ 1000) (hok : AnsOk l) :
    PureSpec Try.prog 24 [ka.v l.length, .int .i64 tag] (fun w => AnsAt w ka l) (RelAF (ansOf (l.map (·.1)) tag)) := by
  refine PureSpec.of_xc tabOk Try.func24 rfl (by decide) (n := Try.f24.ntmps - 2) rfl rfl fun w0 av => ?_
  conv => whnf
  intro b1
  conv => whnf
  refine XStop.loop tabOk (ι := Nat) [5, 6, 9, 10, 11, 12, 13, 14, 15, 16, 17, 18, 19, 20, 21, 22, 23] (fun x => x ≤ l.length ∧ ∀ p ∈ l.take x, iEq p.1.tag tag = false)
    (fun x => [(9, .v (.int .i64 (x : Int)))]) (fun _ => [Ans.zero.cells Hd.nil]) (fun x => ⟨fun w => AnsAt w ka l, []⟩)
    (fun x => l.length - x) 0 ⟨by simp, by simp⟩ ?_ rfl (Ent.refl _) fun i hi => ?_
  · conv => whnf
    repeat (first | exact FLe.nil | refine FLe.any ?_ | refine FLe.cons ?_)
  · conv => whnf
    refine XIf.split (fun hlt => ?_) (fun hge => ?_)
    · conv => whnf
      have hlt' : i < l.length := by
        have : (i : Int) < l.length := by simpa [iLt_eq] using hlt
        omega
      refine XVal.of_read (XRead.index tabOk (t := 44) rfl rfl rfl (by omega) (by omega) hk.nil fun ad had => ?_)
      conv => whnf
      refine XVal.of_read (XRead.load tabOk (t := 3) rfl rfl (ad := ad) (k := i * 3) (L := ansCells l) (fun w hst => had ▸ hst.now.1) rfl (ansCells_tag l hlt') ?_)
      conv => whnf
      refine XIf.split (fun hc => ?_) (fun hc => ?_)
      · conv => whnf
        refine XVal.of_read (XRead.index tabOk (t := 44) rfl rfl rfl (by omega) (by omega) hk.nil fun ad had => ?_)
        conv => whnf
        refine XVal.of_read (XRead.loads tabOk (t := 34) rfl rfl (ad := ad) (k := i * 3) (L := ansCells l) (fun w hst => had ▸ hst.now.1) rfl (ansCells_get l hlt') rfl ?_)
        conv => whnf
        rw [ansOf_hit hlt' hi.2 hc]
        exact ⟨⟨fun w => By w l[i].2 l[i].1.data, []⟩, Ent.imp fun w h => h.2 _ (List.getElem_mem hlt'), l[i].2, rfl, hok _ (List.getElem_mem hlt'), rfl⟩
      · conv => whnf
        refine ⟨i + 1, ⟨⟨hlt', ?_⟩, by dsimp only; omega⟩, ?_, ?_, Ent.refl _⟩
        · intro p hp
          rw [List.take_succ_eq_append_getElem hlt'] at hp
          rcases List.mem_append.1 hp with h | h
          · exact hi.2 p h
          · obtain rfl := List.mem_singleton.1 h
            exact hc
        · conv => whnf
          refine ⟨?_, rfl⟩
          repeat (first | exact FLe.nil | refine FLe.any ?_ | refine FLe.cons ?_ | refine FLe.eq (by rw [wrap_i64 (by omega)]; rfl) ?_)
        · conv => whnf
          exact ⟨⟨rfl, rfl⟩, trivial⟩
    · conv => whnf
      have hge' : l.length ≤ i := by
        have : ¬ (i : Int) < l.length := by simpa [iLt_eq] using hge
        omega
      rw [List.take_of_length_le hge'] at hi
      rw [ansOf_miss hi.2]
      exact ⟨⟨fun w => By w Hd.nil [], []⟩, Ent.imp fun w h => By.nil w, Hd.nil, rfl, Hd.nil_ok, rfl⟩

end Go.Proofs.Ytcmgioaggmaclaa
