/- Parts of the proof: AaR, AaS, AaT, AaU. -/
import Derived.Test.YtakammghcodmgaaGreatDoorQD
import Derived.Test.YtakammghcodmgaaGreatDoorQE
namespace Go.Proofs.YtakammghcodmgaaGreatDoor
open Go Go.Sx
set_option maxRecDepth 100000
set_option maxHeartbeats 4000000
set_option linter.unusedVariables false
set_option linter.unusedSimpArgs false

structure Pr where
 src : Int
 dst : Int
 seq : Int
 deriving Inhabited
def prC (x : Pr) : List Value := [.int .i64 x.src, .int .i64 x.dst, .int .i64 x.seq]

structure Mg where
 src : Int
 dst : Int
 kind : Int
 seq : Int
 a0 : Int
 a1 : Int
 a2 : Int
 a3 : Int
 data : Bs
instance : Inhabited Mg := ⟨⟨0, 0, 0, 0, 0, 0, 0, 0, default⟩⟩
def mgC (x : Mg) : List Value := [.int .i64 x.src, .int .i64 x.dst, .int .i64 x.kind, .int .i64 x.seq, .int .i64 x.a0, .int .i64 x.a1, .int .i64 x.a2, .int .i64 x.a3, bsV x.data]

theorem porTask_spec (a : Int) : PureSpec Tryz.prog 203 [.int .i64 a] (fun _ => True) (fun v F => v = .bool (decide (0 ≤ a ∧ a < 32))) := by
 refine PureSpec.of_xc tabOk Tryz.func203 rfl (by decide) (n := Tryz.f203.ntmps - 1) rfl rfl fun w0 av => ?_
 conv => whnf
 repeat (first | (refine XSame.of ?_; conv => whnf) | (refine XDep.all _ _ _ _ ?_; conv => whnf))
 exact ⟨_, Ent.refl _, by congr 1; rw [Bool.eq_iff_iff]; simp [iGe_eq, iLt_eq, iLe_eq, iGt_eq, iEq_eq, iNe_eq, and_assoc]; try omega⟩

def mgP (x : Mg) : Bool := decide (0 ≤ x.src ∧ x.src < 32) && (decide (0 ≤ x.dst ∧ x.dst < 32) && decide (x.data.n ≤ 1536))

theorem porProper_spec (x : Mg) : PureSpec Tryz.prog 149 [.agg ⟨mgC x⟩] (fun _ => True) (fun v F => v = .bool (mgP x)) := by
 have h1 := porTask_spec x.src
 have h2 := porTask_spec x.dst
 unfold mgP
 generalize decide (0 ≤ x.src ∧ x.src < 32) = q1 at *
 generalize decide (0 ≤ x.dst ∧ x.dst < 32) = q2 at *
 refine PureSpec.of_xc tabOk Tryz.func149 rfl (by decide) (n := Tryz.f149.ntmps - 1) rfl rfl fun w0 av => ?_
 conv => whnf
 repeat (first | (refine XSame.of ?_; conv => whnf) | (refine XDep.all _ _ _ _ ?_; conv => whnf))
 intro b1
 conv => whnf
 repeat (first | (refine XSame.of ?_; conv => whnf) | (refine XDep.all _ _ _ _ ?_; conv => whnf))
 repeat' (first
  | (refine And.intro ?_ ?_ <;> conv => whnf)
  | (refine XHeld.same rfl ?_; conv => whnf)
  | (refine XHeld.row rfl ?_; conv => whnf)
  | (refine XHeld.call rfl ?_; conv => whnf)
  | (refine XHeld.factCall rfl ?_; conv => whnf)
  | (refine XKeep.of ?_; conv => whnf)
  | (refine XSame.of ?_; conv => whnf)
  | (refine XDep.all _ _ _ _ ?_; conv => whnf)
  | (refine XCall.val h1 (fun w hw => trivial) (fun v D hv => ?_); subst hv; conv => whnf)
  | (refine XCall.val h2 (fun w hw => trivial) (fun v D hv => ?_); subst hv; conv => whnf)
  | (cases q1 <;> conv => whnf)
  | (cases q2 <;> conv => whnf)
  | (split <;> conv => whnf)
  | (refine XHeld.mk ?_ ?_; (focus (first | exact Ent.refl _ | exact Ent.left _ _ | exact Ent.of_le ⟨List.sublist_append_left _ _, fun w h => h⟩ | exact Ent.of_le ⟨List.Sublist.refl _, fun w h => h.1⟩)); conv => whnf))
 all_goals refine ⟨_, Ent.refl _, ?_⟩
 all_goals first | rfl | (congr 1; done) | (congr 1; rw [Bool.eq_iff_iff]; simp_all [iGe_eq, iLt_eq, iLe_eq, iGt_eq, iEq_eq, iNe_eq, and_assoc]; done) | (congr 1; rw [Bool.eq_iff_iff]; simp_all [iGe_eq, iLt_eq, iLe_eq, iGt_eq, iEq_eq, iNe_eq, and_assoc]; omega) | (congr 1; rw [Bool.eq_iff_iff]; (try cases q1) <;> (try cases q2) <;> (try cases q3) <;> (try simp_all [iGe_eq, iLt_eq, iLe_eq, iGt_eq, iEq_eq, iNe_eq, and_assoc]) <;> (try omega); done)

def prIs (s d : Int) (x : Pr) : Bool := iEq x.src s && iEq x.dst d

theorem porL1_spec (x : Pr) (b1 b2 : Nat) (s d : Int) : PureSpec Tryz.prog 206 [.agg ⟨prC x⟩, .pointer (some ⟨b1, 0, none⟩), .pointer (some ⟨b2, 0, none⟩)]
 (fun w => RowAt w (some ⟨b1, 0, none⟩) [.int .i64 s] ∧ RowAt w (some ⟨b2, 0, none⟩) [.int .i64 d]) (fun v F => v = .bool (prIs s d x)) := by
 unfold prIs
 refine PureSpec.of_xc tabOk Tryz.func206 rfl (by decide) (n := Tryz.f206.ntmps - 3) rfl rfl fun w0 av => ?_
 conv => whnf
 repeat (first | (refine XSame.of ?_; conv => whnf) | (refine XDep.all _ _ _ _ ?_; conv => whnf))
 intro b3
 conv => whnf
 repeat (first | (refine XSame.of ?_; conv => whnf) | (refine XDep.all _ _ _ _ ?_; conv => whnf))
 repeat' (first
  | (refine And.intro ?_ ?_ <;> conv => whnf)
  | (refine XHeld.same rfl ?_; conv => whnf)
  | (refine XHeld.row rfl ?_; conv => whnf)
  | (refine XHeld.call rfl ?_; conv => whnf)
  | (refine XHeld.factCall rfl ?_; conv => whnf)
  | (refine XKeep.of ?_; conv => whnf)
  | (refine XSame.of ?_; conv => whnf)
  | (refine XDep.all _ _ _ _ ?_; conv => whnf)
  | (refine XVal.of_read (XRead.loadF tabOk rfl rfl (ad := ⟨b1, 0, none⟩) (k := 0) (L := [.int .i64 s]) (v := .int .i64 s) (.fact fun w hw => hw.1) (fun _ => rfl) rfl ?_); conv => whnf)
  | (refine XVal.of_read (XRead.loadF tabOk rfl rfl (ad := ⟨b2, 0, none⟩) (k := 0) (L := [.int .i64 d]) (v := .int .i64 d) (.fact fun w hw => hw.2) (fun _ => rfl) rfl ?_); conv => whnf)
  | (split <;> conv => whnf)
  | (refine XHeld.mk ?_ ?_; (focus (first | exact Ent.refl _ | exact Ent.left _ _ | exact Ent.of_le ⟨List.sublist_append_left _ _, fun w h => h⟩ | exact Ent.of_le ⟨List.Sublist.refl _, fun w h => h.1⟩)); conv => whnf))
 all_goals refine ⟨_, Ent.refl _, ?_⟩
 all_goals first | rfl | (congr 1; done) | (congr 1; rw [Bool.eq_iff_iff]; simp_all [iGe_eq, iLt_eq, iLe_eq, iGt_eq, iEq_eq, iNe_eq, and_assoc]; done) | (congr 1; rw [Bool.eq_iff_iff]; simp_all [iGe_eq, iLt_eq, iLe_eq, iGt_eq, iEq_eq, iNe_eq, and_assoc]; omega) | (congr 1; rw [Bool.eq_iff_iff]; (try cases q1) <;> (try cases q2) <;> (try cases q3) <;> (try simp_all [iGe_eq, iLt_eq, iLe_eq, iGt_eq, iEq_eq, iNe_eq, and_assoc]) <;> (try omega); done)

/-- The number of the last message of a pair; 0 if there is none. -/
def porLast (l : List Pr) (s d : Int) : Int := match l.findIdx? (prIs s d) with
 | some i => l[i]!.seq
 | none => 0

theorem por_idx {α : Type} (cf : α → List Value) (hz : ∀ x, (cf x).length = 3) (f : FuncId) (Pre : World → Prop) (p : α → Bool) (u0 u1 : Value) (l : List α) (h : Hd) (hh : h.Ok l.length) (hl : l.length ≤ 140737488355328) (hf : ∀ e ∈ l, PureSpec Tryz.prog f [.agg ⟨cf e⟩, u0, u1] Pre (fun v F => v = .bool (p e))) :
 PureSpec Tryz.prog 205 [h.v l.length, .func (.func f) #[] #[u0, u1]] (fun w => RowAt w h.a (l.flatMap cf) ∧ Pre w) (fun v F => v = .int .i64 (fint (l.findIdx? p))) := by
 refine PureSpec.of_xc tabOk Tryz.func205 rfl (by decide) (n := Tryz.f205.ntmps - 2) rfl rfl fun w0 av => ?_
 conv => whnf
 refine XStop.loop tabOk (ι := Nat) ([5] ++ List.range' 8 11) (fun x => x ≤ l.length ∧ ∀ j (hj : j < l.length), j < x → p l[j] = false)
  (fun x => [(8, .v (.int .i64 (x : Int)))]) (fun _ => []) (fun _ => ⟨fun w => RowAt w h.a (l.flatMap cf) ∧ Pre w, []⟩)
  (fun x => l.length - x) 0 ⟨Nat.zero_le _, fun j hj h => by omega⟩ ?_ rfl (Ent.refl _) fun i hi => ?_
 · conv => whnf
   repeat (first | exact FLe.nil | refine FLe.any ?_ | refine FLe.cons ?_)
 obtain ⟨hi, hall⟩ := hi
 conv => whnf
 refine XIf.split (fun hlt => ?_) (fun hlt => ?_)
 · have hlt' : i < l.length := by
    simp only [iLt_eq, decide_eq_true_eq] at hlt
    omega
   conv => whnf
   repeat (first | (refine XSame.of ?_; conv => whnf) | (refine XDep.all _ _ _ _ ?_; conv => whnf))
   refine XVal.of_read (XRead.index tabOk (t := 109) rfl rfl rfl (by omega) (by omega) hh.nil fun ad had => ?_)
   conv => whnf
   repeat (first | (refine XSame.of ?_; conv => whnf) | (refine XDep.all _ _ _ _ ?_; conv => whnf))
   refine XVal.of_read (XRead.loads tabOk (t := 297) rfl rfl (ad := ad) (k := i * 3) (L := l.flatMap cf) (m := cf l[i]) (.fact fun w hw => had ▸ hw.1) (by simp) (fm_get hz hlt') (hz _) ?_)
   conv => whnf
   repeat (first | (refine XSame.of ?_; conv => whnf) | (refine XDep.all _ _ _ _ ?_; conv => whnf))
   refine XCall.val (hf _ (List.getElem_mem hlt')) (fun w hw => hw.2) (fun v D hv => ?_)
   generalize hq : p l[i] = q at hv
   subst hv
   cases q
   · conv => whnf
     repeat (first | (refine XSame.of ?_; conv => whnf) | (refine XDep.all _ _ _ _ ?_; conv => whnf))
     refine ⟨i + 1, ⟨⟨hlt', fun j hj h => ?_⟩, by dsimp only; omega⟩, ?_, ?_, Ent.refl _⟩
     · rcases Nat.lt_or_eq_of_le (Nat.lt_succ_iff.1 h) with h5 | h5
       · exact hall j hj h5
       · subst h5
         exact hq
     · conv => whnf
       refine ⟨?_, rfl⟩
       repeat (first | exact FLe.nil | refine FLe.any ?_ | refine FLe.cons ?_ | refine FLe.eq (by rw [wrap_i64 (by omega)]; rfl) ?_)
     · conv => whnf
       exact trivial
   · conv => whnf
     repeat (first | (refine XSame.of ?_; conv => whnf) | (refine XDep.all _ _ _ _ ?_; conv => whnf))
     refine ⟨_, Ent.refl _, ?_⟩
     have : l.findIdx? p = some i := by
      rw [List.findIdx?_eq_some_iff_getElem]
      exact ⟨hlt', hq, fun j hj => by simpa using hall j (by omega) hj⟩
     rw [this]
     rfl
 · have hie : i = l.length := by
    simp only [iLt_eq, decide_eq_false_iff_not] at hlt
    omega
   subst hie
   conv => whnf
   repeat (first | (refine XSame.of ?_; conv => whnf) | (refine XDep.all _ _ _ _ ?_; conv => whnf))
   refine ⟨_, Ent.refl _, ?_⟩
   have : l.findIdx? p = none := by
    rw [List.findIdx?_eq_none_iff]
    intro x hx
    obtain ⟨j, hj, rfl⟩ := List.getElem_of_mem hx
    simpa using hall j hj hj
   rw [this]
   rfl

theorem porLast_spec (qv : Value) (hq : oneCell qv = true) (l : List Pr) (h : Hd) (hh : h.Ok l.length) (hl : l.length ≤ 140737488355328) (s d : Int) :
 PureSpec Tryz.prog 150 [.agg ⟨[qv, h.v l.length]⟩, .int .i64 s, .int .i64 d] (fun w => RowAt w h.a (l.flatMap prC)) (fun v F => v = .int .i64 (porLast l s d)) := by
 have hg := fun (b1 b2 : Nat) => por_idx prC (fun _ => rfl) 206 (fun w => RowAt w (some ⟨b1, 0, none⟩) [.int .i64 s] ∧ RowAt w (some ⟨b2, 0, none⟩) [.int .i64 d]) (prIs s d) (.pointer (some ⟨b1, 0, none⟩)) (.pointer (some ⟨b2, 0, none⟩)) l h hh hl (fun e _ => porL1_spec e b1 b2 s d)
 have hpl : porLast l s d = match l.findIdx? (prIs s d) with
  | some i => l[i]!.seq
  | none => 0 := rfl
 have hlt : ∀ i, l.findIdx? (prIs s d) = some i → i < l.length := fun i hi => by
  rw [List.findIdx?_eq_some_iff_getElem] at hi
  exact hi.1
 generalize l.findIdx? (prIs s d) = fi at *
 obtain ⟨z, hz⟩ : ∃ z, z = fint fi := ⟨_, rfl⟩
 rw [← hz] at hg
 refine PureSpec.of_xc tabOk Tryz.func150 rfl (by decide) (n := Tryz.f150.ntmps - 3) rfl rfl fun w0 av => ?_
 conv => whnf
 repeat (first | (refine XSame.of ?_; conv => whnf) | (refine XDep.all _ _ _ _ ?_; conv => whnf))
 intro b1
 conv => whnf
 repeat (first | (refine XSame.of ?_; conv => whnf) | (refine XDep.all _ _ _ _ ?_; conv => whnf))
 intro b2
 conv => whnf
 repeat (first | (refine XSame.of ?_; conv => whnf) | (refine XDep.all _ _ _ _ ?_; conv => whnf))
 intro b3
 conv => whnf
 repeat (first | (refine XSame.of ?_; conv => whnf) | (refine XDep.all _ _ _ _ ?_; conv => whnf))
 refine XCall.look (hg b2 b3) ((Loc.row _ _).and ((Loc.row _ _).and (Loc.row _ _))) (fun w hst => ⟨hst.now, Sees.box 1 rfl (by simp) rfl w hst, Sees.box 2 rfl (by simp) rfl w hst⟩) ?_
 conv => whnf
 repeat (first | (refine XSame.of ?_; conv => whnf) | (refine XDep.all _ _ _ _ ?_; conv => whnf))
 cases fi with
 | none =>
  have hz : z = -1 := hz
  refine XIf.yes (by simp [iLt_eq]; omega) ?_
  conv => whnf
  repeat (first | (refine XSame.of ?_; conv => whnf) | (refine XDep.all _ _ _ _ ?_; conv => whnf))
  exact ⟨_, Ent.refl _, by rw [hpl]⟩
 | some i =>
  have hz : z = (i : Int) := hz
  have hi := hlt i rfl
  refine XIf.no (by simp [iLt_eq]; omega) ?_
  conv => whnf
  repeat (first | (refine XSame.of ?_; conv => whnf) | (refine XDep.all _ _ _ _ ?_; conv => whnf))
  subst hz
  refine XVal.of_read (XRead.index tabOk (t := 109) rfl rfl rfl (by omega) (by omega) hh.nil fun ad had => ?_)
  conv => whnf
  repeat (first | (refine XSame.of ?_; conv => whnf) | (refine XDep.all _ _ _ _ ?_; conv => whnf))
  refine XVal.of_read (XRead.loadF tabOk (t := 3) rfl rfl (ad := ad) (k := i * 3 + 2) (L := l.flatMap prC) (v := .int .i64 l[i].seq) (.fact fun w hw => had ▸ hw) (fun hs => by rw [Addr.addAdd hs]; rfl) (fm_at (cf := prC) (z := 3) (fun _ => rfl) hi (k := 2) (by decide)) ?_)
  conv => whnf
  repeat (first | (refine XSame.of ?_; conv => whnf) | (refine XDep.all _ _ _ _ ?_; conv => whnf))
  exact ⟨_, Ent.refl _, by rw [hpl]; dsimp only; rw [bang hi]⟩

theorem pairKey : KeyT Tryz.prog 297 (IsAgg 3) := by
 refine KeyT.flat (fs := _) Tryz.underlying297 (by kernel_rfl) (fun i f h => ?_)
 match i with
 | 0 => cases h; exact ⟨by decide, rfl, by kernel_rfl⟩
 | 1 => cases h; exact ⟨by decide, rfl, by kernel_rfl⟩
 | 2 => cases h; exact ⟨by decide, rfl, by kernel_rfl⟩
 | i + 3 => simp at h

end Go.Proofs.YtakammghcodmgaaGreatDoor
namespace Go.Proofs.YtakammghcodmgaaGreatDoor
open Go Go.Sx
set_option maxRecDepth 100000
set_option maxHeartbeats 4000000
set_option linter.unusedVariables false
set_option linter.unusedSimpArgs false

/-- The number of the last of the first i messages of a pair. -/
def lastO (q : List Mg) : Nat → Int → Int → Option Int
 | 0, _, _ => none
 | i + 1, s, d => if q[i]!.src = s ∧ q[i]!.dst = d then some q[i]!.seq else lastO q i s d

def prOk (l : List Pr) (j : Nat) : Bool := decide ((0 ≤ l[j]!.src ∧ l[j]!.src < 32) ∧ (0 ≤ l[j]!.dst ∧ l[j]!.dst < 32) ∧ 1 ≤ l[j]!.seq ∧ l[j]!.seq ≤ 1099511627776 ∧ (0 < j → ordI l[j - 1]!.src l[j]!.src l[j - 1]!.dst l[j]!.dst < 0))
def mgOk (l : List Pr) (q : List Mg) (j : Nat) : Bool := mgP q[j]! && (decide ((lastO q j q[j]!.src q[j]!.dst).getD 0 < q[j]!.seq) && decide (q[j]!.seq ≤ porLast l q[j]!.src q[j]!.dst))

def keyM (s d : Int) : Value := aggI [s, d, 0]

theorem keyM_inj {s d s' d' : Int} (h : keyM s d = keyM s' d') : s = s' ∧ d = d' := by
 have := aggI_inj h
 simp at this
 exact this

structure MapIs (kv : KVs) (f : Int → Int → Option Int) : Prop where
 keys : ∀ p ∈ kv, ∃ s d n, p = (keyM s d, Value.int .i64 n) ∧ f s d = some n
 has : ∀ s d n, f s d = some n → ∃ p ∈ kv, p.1 = keyM s d
 nd : (kv.map (·.1)).Nodup

theorem MapIs.agg {kv : KVs} {f : Int → Int → Option Int} (h : MapIs kv f) : ∀ p ∈ kv, IsAgg 3 p.1 := fun p hp => by
 obtain ⟨s, d, n, rfl, -⟩ := h.keys p hp
 exact ⟨[s, d, 0], rfl, rfl⟩

theorem MapIs.val {kv : KVs} {f : Int → Int → Option Int} (h : MapIs kv f) {s d n : Int} (hf : f s d = some n) (i : Nat) (u : Value) (hi : kv[i]? = some (keyM s d, u)) : u = .int .i64 n := by
 obtain ⟨s', d', n', he, hf'⟩ := h.keys _ (List.mem_of_getElem? hi)
 injection he with h1 h2
 obtain ⟨rfl, rfl⟩ := keyM_inj h1
 rw [hf] at hf'
 cases hf'
 exact h2

theorem MapIs.no {kv : KVs} {f : Int → Int → Option Int} (h : MapIs kv f) {s d : Int} (hf : f s d = none) : ∀ p ∈ kv, p.1 ≠ keyM s d := fun p hp he => by
 obtain ⟨s', d', n', rfl, hf'⟩ := h.keys p hp
 obtain ⟨rfl, rfl⟩ := keyM_inj he
 rw [hf] at hf'
 cases hf'

theorem MapIs.push {kv : KVs} {f g : Int → Int → Option Int} (h : MapIs kv f) {s d n : Int} (hf : f s d = none) (hg : ∀ s' d', g s' d' = if s = s' ∧ d = d' then some n else f s' d') : MapIs (kv ++ [(keyM s d, .int .i64 n)]) g where
 keys p hp := by
  rcases List.mem_append.1 hp with hp | hp
  · obtain ⟨s', d', n', rfl, hf'⟩ := h.keys p hp
    refine ⟨s', d', n', rfl, ?_⟩
    rw [hg, if_neg (fun hc => by rw [← hc.1, ← hc.2, hf] at hf'; cases hf'), hf']
  · rw [List.mem_singleton.1 hp]
    exact ⟨s, d, n, rfl, by rw [hg, if_pos ⟨rfl, rfl⟩]⟩
 has s' d' n' hn := by
  rw [hg] at hn
  split at hn
  · rename_i hc
    exact ⟨_, List.mem_append.2 (.inr (List.mem_singleton.2 rfl)), by rw [hc.1, hc.2]⟩
  · obtain ⟨p, hp, he⟩ := h.has s' d' n' hn
    exact ⟨p, List.mem_append.2 (.inl hp), he⟩
 nd := by
  rw [List.map_append, List.nodup_append]
  refine ⟨h.nd, by simp, ?_⟩
  intro a ha b hb hab
  simp at hb
  subst hb
  subst hab
  obtain ⟨p, hp, he⟩ := List.mem_map.1 ha
  exact h.no hf p hp he

theorem MapIs.put {kv : KVs} {f g : Int → Int → Option Int} (h : MapIs kv f) {s d n : Int} (hg : ∀ s' d', g s' d' = if s = s' ∧ d = d' then some n else f s' d') (i : Nat) (u : Value) (hi : kv[i]? = some (keyM s d, u)) : MapIs (kv.set i (keyM s d, .int .i64 n)) g where
 keys p hp := by
  rw [List.mem_iff_getElem?] at hp
  obtain ⟨j, hj⟩ := hp
  rw [List.getElem?_set] at hj
  by_cases hij : i = j
  · rw [if_pos hij] at hj
    split at hj
    · cases hj
      exact ⟨s, d, n, rfl, by rw [hg, if_pos ⟨rfl, rfl⟩]⟩
    · cases hj
  · rw [if_neg hij] at hj
    obtain ⟨s', d', n', rfl, hf'⟩ := h.keys p (List.mem_of_getElem? hj)
    refine ⟨s', d', n', rfl, ?_⟩
    rw [hg, if_neg (fun hc => ?_), hf']
    obtain ⟨rfl, rfl⟩ := hc
    apply hij
    have h1 : (kv.map (·.1))[i]? = some (keyM s d) := by rw [List.getElem?_map, hi]; rfl
    have h2 : (kv.map (·.1))[j]? = some (keyM s d) := by rw [List.getElem?_map, hj]; rfl
    have hil := (List.getElem?_eq_some_iff.1 h1).1
    exact (List.getElem?_inj hil h.nd).1 (h1.trans h2.symm)
 has s' d' n' hn := by
  have hil := (List.getElem?_eq_some_iff.1 hi).1
  rw [hg] at hn
  split at hn
  · rename_i hc
    exact ⟨(keyM s d, .int .i64 n), List.mem_iff_getElem?.2 ⟨i, by rw [List.getElem?_set, if_pos rfl, if_pos hil]⟩, by rw [hc.1, hc.2]⟩
  · obtain ⟨p, hp, he⟩ := h.has s' d' n' hn
    obtain ⟨j, hj⟩ := List.mem_iff_getElem?.1 hp
    by_cases hij : i = j
    · subst hij
      rw [hi] at hj
      cases hj
      exact ⟨(keyM s d, .int .i64 n), List.mem_iff_getElem?.2 ⟨i, by rw [List.getElem?_set, if_pos rfl, if_pos hil]⟩, he⟩
    · exact ⟨p, List.mem_iff_getElem?.2 ⟨j, by rw [List.getElem?_set, if_neg hij, hj]⟩, he⟩
 nd := by
  have : (kv.set i (keyM s d, .int .i64 n)).map (·.1) = kv.map (·.1) := by
   apply List.ext_getElem?
   intro j
   rw [List.getElem?_map, List.getElem?_map, List.getElem?_set]
   by_cases hij : i = j
   · subst hij
     have hil := (List.getElem?_eq_some_iff.1 hi).1
     rw [if_pos rfl, if_pos hil, hi]
     rfl
   · rw [if_neg hij]
  rw [this]
  exact h.nd

end Go.Proofs.YtakammghcodmgaaGreatDoor
namespace Go.Proofs.YtakammghcodmgaaGreatDoor
open Go Go.Sx
set_option maxRecDepth 100000
set_option maxHeartbeats 4000000
set_option linter.unusedVariables false
set_option linter.unusedSimpArgs false

theorem portsValid_spec (q : List Mg) (hq : Hd) (hqo : hq.Ok q.length) (hql : q.length ≤ 140737488355328) (l : List Pr) (h : Hd) (hh : h.Ok l.length) (hl : l.length ≤ 140737488355328) :
 PureSpec Tryz.prog 148 [.agg ⟨[hq.v q.length, h.v l.length]⟩] (fun w => RowAt w h.a (l.flatMap prC) ∧ RowAt w hq.a (q.flatMap mgC)) (fun v F => v = .bool (allI l.length (prOk l) && (allI q.length (mgOk l q) && decide (q.length ≤ 400)))) := by
 refine PureSpec.of_xc tabOk Tryz.func148 rfl (by decide) (n := Tryz.f148.ntmps - 1) rfl rfl fun w0 av => ?_
 conv => whnf
 repeat (first | (refine XSame.of ?_; conv => whnf) | (refine XDep.all _ _ _ _ ?_; conv => whnf))
 intro b0_0
 conv => whnf
 repeat (first | (refine XSame.of ?_; conv => whnf) | (refine XDep.all _ _ _ _ ?_; conv => whnf))
 refine XStop.loop tabOk (ι := Nat) ([3, 4] ++ List.range' 12 41) (fun x => x ≤ l.length ∧ ∀ j, j < x → prOk l j = true)
  (fun x => [(12, .v (.int .i64 (x : Int)))]) (fun _ => [[hq.v q.length, h.v l.length]]) (fun _ => ⟨fun w => RowAt w h.a (l.flatMap prC) ∧ RowAt w hq.a (q.flatMap mgC), []⟩)
  (fun x => l.length - x) 0 ⟨Nat.zero_le _, fun j h => by omega⟩ ?_ rfl (Ent.of_le ⟨by simp [Value.cells], fun w hw => hw⟩) fun i hi => ?_
 · conv => whnf
   repeat (first | exact FLe.nil | refine FLe.any ?_ | refine FLe.cons ?_)
 obtain ⟨hi, hall⟩ := hi
 conv => whnf
 repeat (first | (refine XSame.of ?_; conv => whnf) | (refine XDep.all _ _ _ _ ?_; conv => whnf))
 refine XIf.split (fun hlt => ?_) (fun hlt => ?_)
 · have hlt' : i < l.length := by
    simp only [iLt_eq, decide_eq_true_eq] at hlt
    omega
   have hok : prOk l i = decide ((0 ≤ l[i].src ∧ l[i].src < 32) ∧ (0 ≤ l[i].dst ∧ l[i].dst < 32) ∧ 1 ≤ l[i].seq ∧ l[i].seq ≤ 1099511627776 ∧ (0 < i → ordI l[i - 1]!.src l[i].src l[i - 1]!.dst l[i].dst < 0)) := by
    unfold prOk
    rw [bang hlt']
   have hnext : prOk l i = true → ∀ j, j < i + 1 → prOk l j = true := fun hs j hj => by
    rcases Nat.lt_or_eq_of_le (Nat.lt_succ_iff.1 hj) with h5 | h5
    · exact hall j h5
    · exact h5 ▸ hs
   have hq1 := porTask_spec l[i].src
   obtain ⟨q1, heq1⟩ : ∃ q, q = decide (0 ≤ l[i].src ∧ l[i].src < 32) := ⟨_, rfl⟩
   rw [← heq1] at hq1
   have hq2 := porTask_spec l[i].dst
   obtain ⟨q2, heq2⟩ : ∃ q, q = decide (0 ≤ l[i].dst ∧ l[i].dst < 32) := ⟨_, rfl⟩
   rw [← heq2] at hq2
   conv => whnf
   repeat (first | (refine XSame.of ?_; conv => whnf) | (refine XDep.all _ _ _ _ ?_; conv => whnf))
   refine XVal.of_read (XRead.index tabOk (t := 109) rfl rfl rfl (by first | omega | (dsimp only; omega)) (by first | omega | (dsimp only; omega)) hh.nil fun ad had => ?_)
   conv => whnf
   repeat (first | (refine XSame.of ?_; conv => whnf) | (refine XDep.all _ _ _ _ ?_; conv => whnf))
   refine XVal.of_read (XRead.loads tabOk (t := 297) rfl rfl (ad := ad) (k := i * 3) (L := l.flatMap prC) (m := prC l[i]) (.fact fun w hw => had ▸ hw.1) (by simp) (fm_get (cf := prC) (z := 3) (fun _ => rfl) hlt') rfl ?_)
   conv => whnf
   repeat (first | (refine XSame.of ?_; conv => whnf) | (refine XDep.all _ _ _ _ ?_; conv => whnf))
   intro b1
   conv => whnf
   repeat (first | (refine XSame.of ?_; conv => whnf) | (refine XDep.all _ _ _ _ ?_; conv => whnf))
   refine XStop.draw tabOk mixed rfl rfl ?_
   conv => whnf
   rcases Nat.eq_zero_or_pos i with h0 | h0
   · have hg : iGt (i : Int) 0 = false := by simp [iGt_eq]; omega
     repeat' (first
      | (refine And.intro ?_ ?_ <;> conv => whnf)
      | (refine XHeld.same rfl ?_; conv => whnf)
      | (refine XHeld.row rfl ?_; conv => whnf)
      | (refine XHeld.call rfl ?_; conv => whnf)
      | (refine XHeld.factCall rfl ?_; conv => whnf)
      | (refine XKeep.of ?_; conv => whnf)
      | (refine XSame.of ?_; conv => whnf)
      | (refine XDep.all _ _ _ _ ?_; conv => whnf)
      | (rw [hg]; conv => whnf)
      | (refine XCall.val hq1 (fun w hw => trivial) (fun v D hv => ?_); subst hv; conv => whnf)
      | (refine XCall.val hq2 (fun w hw => trivial) (fun v D hv => ?_); subst hv; conv => whnf)
      | (split <;> conv => whnf)
      | (refine XHeld.mk ?_ ?_; (focus (first | exact Ent.refl _ | exact Ent.left _ _ | exact Ent.of_le ⟨List.sublist_append_left _ _, fun w h => h⟩ | exact Ent.of_le ⟨List.Sublist.refl _, fun w h => h.1⟩)); conv => whnf))
     all_goals first
      | (refine ⟨_, Ent.refl _, ?_⟩; rw [allI_false hlt' (by rw [hok]; ((try subst heq1); (try subst heq2); (try subst heq3); simp only [cond_true, cond_false, iLt_eq, iLe_eq, iGt_eq, iGe_eq, iEq_eq, iNe_eq, decide_eq_true_eq, decide_eq_false_iff_not, beq_iff_eq, bne_iff_ne, ne_eq, beq_eq_false_iff_ne, bne_eq_false_iff_eq, Bool.not_eq_true, Bool.not_eq_false, Bool.and_true, Bool.true_and, Bool.and_false, Bool.false_and, Bool.or_true, Bool.or_false, Bool.true_or, Bool.false_or, Bool.not_eq_true', Bool.not_eq_false', Bool.not_true, Bool.not_false] at *; first | omega | (simp_all; done) | (simp_all; omega)))]; first | done | rfl)
      | (
       refine ⟨i + 1, ⟨⟨hlt', hnext (by rw [hok]; ((try subst heq1); (try subst heq2); (try subst heq3); simp only [cond_true, cond_false, iLt_eq, iLe_eq, iGt_eq, iGe_eq, iEq_eq, iNe_eq, decide_eq_true_eq, decide_eq_false_iff_not, beq_iff_eq, bne_iff_ne, ne_eq, beq_eq_false_iff_ne, bne_eq_false_iff_eq, Bool.not_eq_true, Bool.not_eq_false, Bool.and_true, Bool.true_and, Bool.and_false, Bool.false_and, Bool.or_true, Bool.or_false, Bool.true_or, Bool.false_or, Bool.not_eq_true', Bool.not_eq_false', Bool.not_true, Bool.not_false] at *; first | omega | (simp_all; done) | (simp_all; omega)))⟩, by dsimp only; omega⟩, ?_, ?_, Ent.refl _⟩; (conv => whnf); refine ⟨?_, rfl⟩; repeat (first | exact FLe.nil | refine FLe.any ?_ | refine FLe.cons ?_ | refine FLe.eq (by rw [wrap_i64 (by omega)]; rfl) ?_)
       (conv => whnf); exact ⟨⟨rfl, rfl⟩, trivial⟩)
   · have hg : iGt (i : Int) 0 = true := by simp [iGt_eq]; omega
     have hj : i - 1 < l.length := by omega
     have hw1 : IntKind.i64.wrap ((i : Int) - 1) = ((i - 1 : Nat) : Int) := by
      rw [wrap_i64 (by omega)]
      omega
     try rw [bang hj] at hok
     repeat' (first
      | (refine And.intro ?_ ?_ <;> conv => whnf)
      | (refine XHeld.same rfl ?_; conv => whnf)
      | (refine XHeld.row rfl ?_; conv => whnf)
      | (refine XHeld.call rfl ?_; conv => whnf)
      | (refine XHeld.factCall rfl ?_; conv => whnf)
      | (refine XKeep.of ?_; conv => whnf)
      | (refine XSame.of ?_; conv => whnf)
      | (refine XDep.all _ _ _ _ ?_; conv => whnf)
      | (rw [hg]; conv => whnf)
      | (refine XCall.val hq1 (fun w hw => trivial) (fun v D hv => ?_); subst hv; conv => whnf)
      | (refine XCall.val hq2 (fun w hw => trivial) (fun v D hv => ?_); subst hv; conv => whnf)
      | (refine XRead.index tabOk (t := 109) rfl rfl rfl (by first | omega | (dsimp only; omega)) (by first | omega | (dsimp only; omega)) hh.nil fun ad2 had2 => ?_; conv => whnf)
      | (refine XRead.loads tabOk (t := 297) rfl rfl (ad := ad2) (k := (i - 1) * 3) (L := l.flatMap prC) (m := prC l[i - 1]) (.fact fun w hw => had2 ▸ hw.1) (by rw [hw1]; simp) (fm_get (cf := prC) (z := 3) (fun _ => rfl) hj) rfl ?_; conv => whnf)
      | (refine XCall.val (porOrder_spec l[i - 1].src l[i - 1].dst l[i - 1].seq l[i].src l[i].dst l[i].seq) (fun w hw => trivial) (fun v D hv => ?_); subst hv; conv => whnf)
      | (split <;> conv => whnf)
      | (refine XHeld.mk ?_ ?_; (focus (first | exact Ent.refl _ | exact Ent.left _ _ | exact Ent.of_le ⟨List.sublist_append_left _ _, fun w h => h⟩ | exact Ent.of_le ⟨List.Sublist.refl _, fun w h => h.1⟩)); conv => whnf))
     all_goals first
      | (refine ⟨_, Ent.refl _, ?_⟩; rw [allI_false hlt' (by rw [hok]; ((try subst heq1); (try subst heq2); (try subst heq3); simp only [cond_true, cond_false, iLt_eq, iLe_eq, iGt_eq, iGe_eq, iEq_eq, iNe_eq, decide_eq_true_eq, decide_eq_false_iff_not, beq_iff_eq, bne_iff_ne, ne_eq, beq_eq_false_iff_ne, bne_eq_false_iff_eq, Bool.not_eq_true, Bool.not_eq_false, Bool.and_true, Bool.true_and, Bool.and_false, Bool.false_and, Bool.or_true, Bool.or_false, Bool.true_or, Bool.false_or, Bool.not_eq_true', Bool.not_eq_false', Bool.not_true, Bool.not_false] at *; first | omega | (simp_all; done) | (simp_all; omega)))]; first | done | rfl)
      | (
       refine ⟨i + 1, ⟨⟨hlt', hnext (by rw [hok]; ((try subst heq1); (try subst heq2); (try subst heq3); simp only [cond_true, cond_false, iLt_eq, iLe_eq, iGt_eq, iGe_eq, iEq_eq, iNe_eq, decide_eq_true_eq, decide_eq_false_iff_not, beq_iff_eq, bne_iff_ne, ne_eq, beq_eq_false_iff_ne, bne_eq_false_iff_eq, Bool.not_eq_true, Bool.not_eq_false, Bool.and_true, Bool.true_and, Bool.and_false, Bool.false_and, Bool.or_true, Bool.or_false, Bool.true_or, Bool.false_or, Bool.not_eq_true', Bool.not_eq_false', Bool.not_true, Bool.not_false] at *; first | omega | (simp_all; done) | (simp_all; omega)))⟩, by dsimp only; omega⟩, ?_, ?_, Ent.refl _⟩; (conv => whnf); refine ⟨?_, rfl⟩; repeat (first | exact FLe.nil | refine FLe.any ?_ | refine FLe.cons ?_ | refine FLe.eq (by rw [wrap_i64 (by omega)]; rfl) ?_)
       (conv => whnf); exact ⟨⟨rfl, rfl⟩, trivial⟩)
 · have hie : i = l.length := by
    simp only [iLt_eq, decide_eq_false_iff_not] at hlt
    omega
   subst hie
   conv => whnf
   repeat (first | (refine XSame.of ?_; conv => whnf) | (refine XDep.all _ _ _ _ ?_; conv => whnf))
   rw [allI_true hall, Bool.true_and]
   clear hall hlt hi
   refine XVal.makeMapG fun bm => ?_
   conv => whnf
   repeat (first | (refine XSame.of ?_; conv => whnf) | (refine XDep.all _ _ _ _ ?_; conv => whnf))
   refine XStop.loop tabOk (ι := Nat × KVs) ([7, 8] ++ List.range' 57 36) (fun x => x.1 ≤ q.length ∧ (∀ j, j < x.1 → mgOk l q j = true) ∧ MapIs x.2 (lastO q x.1))
    (fun x => [(57, .v (.int .i64 (x.1 : Int)))]) (fun _ => [[hq.v q.length, h.v l.length]]) (fun x => ⟨fun w => RowAt w h.a (l.flatMap prC) ∧ RowAt w hq.a (q.flatMap mgC), [(bm, Row.m (mapG x.2) x.2.length)]⟩)
    (fun x => q.length - x.1) (0, []) ⟨Nat.zero_le _, fun j h => by omega, MapIs.mk (by simp) (fun s d n h => by simp [lastO] at h) (by simp)⟩ ?_ rfl (Ent.refl _) fun x hx => ?_
   · conv => whnf
     repeat (first | exact FLe.nil | refine FLe.any ?_ | refine FLe.cons ?_)
   obtain ⟨i, kv⟩ := x
   obtain ⟨hi, hall, hkv⟩ := hx
   dsimp only at hi hall hkv ⊢
   conv => whnf
   repeat (first | (refine XSame.of ?_; conv => whnf) | (refine XDep.all _ _ _ _ ?_; conv => whnf))
   refine XIf.split (fun hlt => ?_) (fun hlt => ?_)
   · have hlt' : i < q.length := by
      simp only [iLt_eq, decide_eq_true_eq] at hlt
      omega
     have hok : mgOk l q i = (mgP q[i] && (decide ((lastO q i q[i].src q[i].dst).getD 0 < q[i].seq) && decide (q[i].seq ≤ porLast l q[i].src q[i].dst))) := by
      unfold mgOk
      rw [bang hlt']
     have hnl : ∀ s' d', lastO q (i + 1) s' d' = if q[i].src = s' ∧ q[i].dst = d' then some q[i].seq else lastO q i s' d' := fun s' d' => by
      conv => lhs; unfold lastO
      rw [bang hlt']
     have hnext : mgOk l q i = true → ∀ j, j < i + 1 → mgOk l q j = true := fun hs j hj => by
      rcases Nat.lt_or_eq_of_le (Nat.lt_succ_iff.1 hj) with h5 | h5
      · exact hall j h5
      · exact h5 ▸ hs
     have hpp := porProper_spec q[i]
     have hpl := porLast_spec (hq.v q.length) rfl l h hh hl q[i].src q[i].dst
     obtain ⟨q1, heq1⟩ : ∃ x, x = mgP q[i] := ⟨_, rfl⟩
     rw [← heq1] at hpp
     conv => whnf
     repeat (first | (refine XSame.of ?_; conv => whnf) | (refine XDep.all _ _ _ _ ?_; conv => whnf))
     refine XVal.of_read (XRead.index tabOk (t := 108) rfl rfl rfl (by omega) (by omega) hqo.nil fun ad had => ?_)
     conv => whnf
     repeat (first | (refine XSame.of ?_; conv => whnf) | (refine XDep.all _ _ _ _ ?_; conv => whnf))
     refine XVal.of_read (XRead.loads tabOk (t := 53) rfl rfl (ad := ad) (k := i * 9) (L := q.flatMap mgC) (m := mgC q[i]) (.fact fun w hw => had ▸ hw.2) (by simp) (fm_get (cf := mgC) (z := 9) (fun _ => rfl) hlt') rfl ?_)
     conv => whnf
     repeat (first | (refine XSame.of ?_; conv => whnf) | (refine XDep.all _ _ _ _ ?_; conv => whnf))
     intro b7
     conv => whnf
     repeat (first | (refine XSame.of ?_; conv => whnf) | (refine XDep.all _ _ _ _ ?_; conv => whnf))
     intro b8
     conv => whnf
     repeat (first | (refine XSame.of ?_; conv => whnf) | (refine XDep.all _ _ _ _ ?_; conv => whnf))
     refine XStop.draw tabOk mixed rfl rfl ?_
     conv => whnf
     rcases hlo : lastO q i q[i].src q[i].dst with _ | n
     · repeat' (first
        | (refine And.intro ?_ ?_ <;> conv => whnf)
        | (refine XHeld.same rfl ?_; conv => whnf)
        | (refine XHeld.row rfl ?_; conv => whnf)
        | (refine XHeld.call rfl ?_; conv => whnf)
        | (refine XHeld.factCall rfl ?_; conv => whnf)
        | (refine XKeep.of ?_; conv => whnf)
        | (refine XSame.of ?_; conv => whnf)
        | (refine XDep.all _ _ _ _ ?_; conv => whnf)
        | (refine XCall.val hpp (fun w hw => trivial) (fun v D hv => ?_); subst hv; conv => whnf)
        | (refine XCall.val hpl (fun w hw => hw.1) (fun v D hv => ?_); subst hv; conv => whnf)
        | (refine XVal.of_read (XRead.lookupNoT tabOk (t := 334) rfl rfl rfl pairKey (z := .int .i64 0) (SeesM.row (by simp)) ⟨[q[i].src, q[i].dst, 0], rfl, rfl⟩ hkv.agg (hkv.no hlo) (by kernel_rfl) ?_); rw [if_neg (by decide)]; conv => whnf)
        | (split <;> conv => whnf)
        | (refine XHeld.mk ?_ ?_; (focus (first | exact Ent.refl _ | exact Ent.left _ _ | exact Ent.of_le ⟨List.sublist_append_left _ _, fun w h => h⟩ | exact Ent.of_le ⟨List.Sublist.refl _, fun w h => h.1⟩)); conv => whnf))
       iterate 3 (refine ⟨_, Ent.refl _, ?_⟩; rw [allI_false hlt' (by rw [hok, hlo]; (try subst heq1); simp_all [iLe_eq, iGt_eq] <;> (try omega))]; first | done | rfl)
       have hgood : mgOk l q i = true := by
        rw [hok, hlo]
        subst heq1
        simp_all [iLe_eq, iGt_eq]
       refine XUnit.mapNewT tabOk (t := 334) rfl rfl rfl pairKey (r1 := []) (r2 := []) (b := bm) (l := kv) (k := keyM q[i].src q[i].dst) (v := .int .i64 q[i].seq) ⟨[q[i].src, q[i].dst, 0], rfl, rfl⟩ hkv.agg (hkv.no hlo) ?_
       conv => whnf
       repeat (first | (refine XSame.of ?_; conv => whnf) | (refine XDep.all _ _ _ _ ?_; conv => whnf))
       refine ⟨(i + 1, kv ++ [(keyM q[i].src q[i].dst, .int .i64 q[i].seq)]), ⟨⟨hlt', hnext hgood, ?_⟩, by dsimp only; omega⟩, ?_, ?_, Ent.refl _⟩
       · exact hkv.push hlo hnl
       · conv => whnf
         refine ⟨?_, rfl⟩
         repeat (first | exact FLe.nil | refine FLe.any ?_ | refine FLe.cons ?_ | refine FLe.eq (by rw [wrap_i64 (by omega)]; rfl) ?_)
       · conv => whnf
         exact ⟨⟨rfl, rfl⟩, trivial⟩
     · repeat' (first
        | (refine And.intro ?_ ?_ <;> conv => whnf)
        | (refine XHeld.same rfl ?_; conv => whnf)
        | (refine XHeld.row rfl ?_; conv => whnf)
        | (refine XHeld.call rfl ?_; conv => whnf)
        | (refine XHeld.factCall rfl ?_; conv => whnf)
        | (refine XKeep.of ?_; conv => whnf)
        | (refine XSame.of ?_; conv => whnf)
        | (refine XDep.all _ _ _ _ ?_; conv => whnf)
        | (refine XCall.val hpp (fun w hw => trivial) (fun v D hv => ?_); subst hv; conv => whnf)
        | (refine XCall.val hpl (fun w hw => hw.1) (fun v D hv => ?_); subst hv; conv => whnf)
        | (refine XVal.of_read (XRead.lookupInT tabOk (t := 334) rfl rfl rfl pairKey (v := .int .i64 n) (SeesM.row (by simp)) ⟨[q[i].src, q[i].dst, 0], rfl, rfl⟩ hkv.agg (hkv.val hlo) (hkv.has _ _ _ hlo) ?_); rw [if_neg (by decide)]; conv => whnf)
        | (split <;> conv => whnf)
        | (refine XHeld.mk ?_ ?_; (focus (first | exact Ent.refl _ | exact Ent.left _ _ | exact Ent.of_le ⟨List.sublist_append_left _ _, fun w h => h⟩ | exact Ent.of_le ⟨List.Sublist.refl _, fun w h => h.1⟩)); conv => whnf))
       iterate 3 (refine ⟨_, Ent.refl _, ?_⟩; rw [allI_false hlt' (by rw [hok, hlo]; (try subst heq1); simp_all [iLe_eq, iGt_eq] <;> (try omega))]; first | done | rfl)
       have hgood : mgOk l q i = true := by
        rw [hok, hlo]
        subst heq1
        simp_all [iLe_eq, iGt_eq]
       refine XUnit.mapOldT tabOk (t := 334) rfl rfl rfl pairKey (r1 := []) (r2 := []) (b := bm) (l := kv) (k := keyM q[i].src q[i].dst) (v := .int .i64 q[i].seq) ⟨[q[i].src, q[i].dst, 0], rfl, rfl⟩ hkv.agg (hkv.has _ _ _ hlo) fun i2 u2 hi2 => ?_
       conv => whnf
       repeat (first | (refine XSame.of ?_; conv => whnf) | (refine XDep.all _ _ _ _ ?_; conv => whnf))
       refine ⟨(i + 1, kv.set i2 (keyM q[i].src q[i].dst, .int .i64 q[i].seq)), ⟨⟨hlt', hnext hgood, ?_⟩, by dsimp only; omega⟩, ?_, ?_, Ent.refl _⟩
       · exact hkv.put hnl i2 u2 hi2
       · conv => whnf
         refine ⟨?_, rfl⟩
         repeat (first | exact FLe.nil | refine FLe.any ?_ | refine FLe.cons ?_ | refine FLe.eq (by rw [wrap_i64 (by omega)]; rfl) ?_)
       · conv => whnf
         exact ⟨⟨rfl, rfl⟩, trivial⟩
   · have hie : i = q.length := by
      simp only [iLt_eq, decide_eq_false_iff_not] at hlt
      omega
     subst hie
     conv => whnf
     repeat (first | (refine XSame.of ?_; conv => whnf) | (refine XDep.all _ _ _ _ ?_; conv => whnf))
     refine ⟨_, Ent.refl _, ?_⟩
     rw [allI_true hall, Bool.true_and]
     congr 1
     rw [Bool.eq_iff_iff]
     simp [iLe_eq]
     try omega

end Go.Proofs.YtakammghcodmgaaGreatDoor
namespace Go.Proofs.YtakammghcodmgaaGreatDoor
open Go Go.Sx
set_option maxRecDepth 100000
set_option maxHeartbeats 4000000
set_option linter.unusedVariables false
set_option linter.unusedSimpArgs false

structure Rt where
 ty : Int
 peer : Int
 code : Int
 deriving Inhabited
def rtC (x : Rt) : List Value := [.int .i64 x.ty, .int .i64 x.peer, .int .i64 x.code]

structure Cp where
 id : Int
 parent : Int
 owner : Int
 r : Rt
 deriving Inhabited
def cpC (x : Cp) : List Value := [.int .i64 x.id, .int .i64 x.parent, .int .i64 x.owner, .int .i64 x.r.ty, .int .i64 x.r.peer, .int .i64 x.r.code]

def rtP (x : Rt) : Bool := if iEq x.ty 1 then decide (1 ≤ x.peer ∧ x.peer ≤ 10 ∧ 1 ≤ x.code ∧ x.code < 28) else if iEq x.ty 2 then decide (x.peer = 0 ∧ 1 ≤ x.code ∧ x.code < 17) else if iEq x.ty 3 then decide (x.peer = 0 ∧ 1 ≤ x.code ∧ x.code ≤ 4) else false

theorem rtProper_spec (x : Rt) : PureSpec Tryz.prog 180 [.agg ⟨rtC x⟩] (fun _ => True) (fun v F => v = .bool (rtP x)) := by
 unfold rtP
 refine PureSpec.of_xc tabOk Tryz.func180 rfl (by decide) (n := Tryz.f180.ntmps - 1) rfl rfl fun w0 av => ?_
 conv => whnf
 repeat (first | (refine XSame.of ?_; conv => whnf) | (refine XDep.all _ _ _ _ ?_; conv => whnf))
 intro b1
 conv => whnf
 repeat (first | (refine XSame.of ?_; conv => whnf) | (refine XDep.all _ _ _ _ ?_; conv => whnf))
 repeat' (first
  | (refine And.intro ?_ ?_ <;> conv => whnf)
  | (refine XHeld.same rfl ?_; conv => whnf)
  | (refine XHeld.row rfl ?_; conv => whnf)
  | (refine XHeld.call rfl ?_; conv => whnf)
  | (refine XHeld.factCall rfl ?_; conv => whnf)
  | (refine XKeep.of ?_; conv => whnf)
  | (refine XSame.of ?_; conv => whnf)
  | (refine XDep.all _ _ _ _ ?_; conv => whnf)
  | (refine XIf.split (fun h => ?_) (fun h => ?_) <;> conv => whnf)
  | (split <;> conv => whnf)
  | (refine XHeld.mk ?_ ?_; (focus (first | exact Ent.refl _ | exact Ent.left _ _ | exact Ent.of_le ⟨List.sublist_append_left _ _, fun w h => h⟩ | exact Ent.of_le ⟨List.Sublist.refl _, fun w h => h.1⟩)); conv => whnf))
 all_goals refine ⟨_, Ent.refl _, ?_⟩
 all_goals first | rfl | (congr 1; done) | (congr 1; rw [Bool.eq_iff_iff]; simp_all [iGe_eq, iLt_eq, iLe_eq, iGt_eq, iEq_eq, iNe_eq, and_assoc]; done) | (congr 1; rw [Bool.eq_iff_iff]; simp_all [iGe_eq, iLt_eq, iLe_eq, iGt_eq, iEq_eq, iNe_eq, and_assoc]; omega) | (congr 1; rw [Bool.eq_iff_iff]; (try cases q1) <;> (try cases q2) <;> (try cases q3) <;> (try simp_all [iGe_eq, iLt_eq, iLe_eq, iGt_eq, iEq_eq, iNe_eq, and_assoc]) <;> (try omega); done)

theorem rightFields : ∀ (i : Nat) (f : Field), (Array.toList (Tryz.prog.fieldsOf 177))[i]? = some f → f.name ≠ "_" ∧ f.offset = i ∧ Tryz.prog.underlying f.type = some (.int .i64) := by
 rw [show Tryz.prog.fieldsOf 177 = _ from by unfold Program.fieldsOf; rw [Tryz.underlying177]]
 intro i f h
 match i with
 | 0 => cases h; exact ⟨by decide, rfl, by kernel_rfl⟩
 | 1 => cases h; exact ⟨by decide, rfl, by kernel_rfl⟩
 | 2 => cases h; exact ⟨by decide, rfl, by kernel_rfl⟩
 | i + 3 => simp at h

theorem rightU : Tryz.prog.underlying 177 = some (.struct (Tryz.prog.fieldsOf 177)) := by
 unfold Program.fieldsOf
 rw [Tryz.underlying177]

theorem rightN : (Tryz.prog.fieldsOf 177).size = 3 := by
 unfold Program.fieldsOf
 rw [Tryz.underlying177]
 rfl

theorem rightEq : EqT Tryz.prog 177 3 := by
 have := EqT.flat rightU (by kernel_rfl) rightFields
 rw [rightN] at this
 exact this

theorem heldKey : KeyT Tryz.prog 312 (IsAgg 4) := by
 obtain ⟨i1, d1, z1, p1, p2, p3, p4, p5, p6, p7, p8⟩ := mkTI_parts (tabOk 177 _ rfl)
 exact KeyT.nest (f0 := _) (f1 := _) Tryz.underlying312 (by kernel_rfl) ⟨by decide, rfl, by kernel_rfl⟩ ⟨by decide, rfl, rfl⟩ rightU p1 p5.symm (by kernel_rfl) rightN rightFields

def rtEq (x y : Rt) : Bool := iEq x.ty y.ty && (iEq x.peer y.peer && iEq x.code y.code)

theorem capHas1_spec (x : Cp) (b1 b2 : Nat) (o : Int) (r : Rt) : PureSpec Tryz.prog 182 [.agg ⟨cpC x⟩, .pointer (some ⟨b1, 0, none⟩), .pointer (some ⟨b2, 0, none⟩)]
 (fun w => RowAt w (some ⟨b1, 0, none⟩) [.int .i64 o] ∧ RowAt w (some ⟨b2, 0, none⟩) (rtC r)) (fun v F => v = .bool (iEq x.owner o && rtEq x.r r)) := by
 unfold rtEq
 refine PureSpec.of_xc tabOk Tryz.func182 rfl (by decide) (n := Tryz.f182.ntmps - 3) rfl rfl fun w0 av => ?_
 conv => whnf
 repeat (first | (refine XSame.of ?_; conv => whnf) | (refine XDep.all _ _ _ _ ?_; conv => whnf))
 intro b3
 conv => whnf
 repeat (first | (refine XSame.of ?_; conv => whnf) | (refine XDep.all _ _ _ _ ?_; conv => whnf))
 repeat' (first
  | (refine And.intro ?_ ?_ <;> conv => whnf)
  | (refine XHeld.same rfl ?_; conv => whnf)
  | (refine XHeld.row rfl ?_; conv => whnf)
  | (refine XHeld.call rfl ?_; conv => whnf)
  | (refine XHeld.factCall rfl ?_; conv => whnf)
  | (refine XKeep.of ?_; conv => whnf)
  | (refine XSame.of ?_; conv => whnf)
  | (refine XDep.all _ _ _ _ ?_; conv => whnf)
  | (refine XVal.of_read (XRead.loadF tabOk rfl rfl (ad := ⟨b1, 0, none⟩) (k := 0) (L := [.int .i64 o]) (v := .int .i64 o) (.fact fun w hw => hw.1) (fun _ => rfl) rfl ?_); conv => whnf)
  | (refine XVal.of_read (XRead.loads tabOk rfl rfl (ad := ⟨b2, 0, none⟩) (k := 0) (L := rtC r) (m := rtC r) (.fact fun w hw => hw.2) rfl rfl rfl ?_); conv => whnf)
  | (refine XVal.of_read (XRead.eqAgg rightEq (by kernel_rfl) (xs := [x.r.ty, x.r.peer, x.r.code]) (ys := [r.ty, r.peer, r.code]) rfl rfl ?_); conv => whnf)
  | (split <;> conv => whnf)
  | (refine XHeld.mk ?_ ?_; (focus (first | exact Ent.refl _ | exact Ent.left _ _ | exact Ent.of_le ⟨List.sublist_append_left _ _, fun w h => h⟩ | exact Ent.of_le ⟨List.Sublist.refl _, fun w h => h.1⟩)); conv => whnf))
 all_goals refine ⟨_, Ent.refl _, ?_⟩
 all_goals first | rfl | (congr 1; done) | (congr 1; rw [Bool.eq_iff_iff]; simp_all [iGe_eq, iLt_eq, iLe_eq, iGt_eq, iEq_eq, iNe_eq, and_assoc]; done) | (congr 1; rw [Bool.eq_iff_iff]; simp_all [iGe_eq, iLt_eq, iLe_eq, iGt_eq, iEq_eq, iNe_eq, and_assoc]; omega) | (congr 1; rw [Bool.eq_iff_iff]; (try cases q1) <;> (try cases q2) <;> (try cases q3) <;> (try simp_all [iGe_eq, iLt_eq, iLe_eq, iGt_eq, iEq_eq, iNe_eq, and_assoc]) <;> (try omega); done)

end Go.Proofs.YtakammghcodmgaaGreatDoor
