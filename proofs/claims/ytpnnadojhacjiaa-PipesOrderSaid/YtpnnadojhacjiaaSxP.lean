/- Sx, part P: a statement whose order is open: the theorem. -/
import Derived.Test.YtpnnadojhacjiaaSxO
namespace Go.Sx
set_option linter.unusedVariables false

section
variable {P : Program} {tab : Tab} {w0 : World} {R : Nat → Nat → Prop} {av : Nat → Prop}

theorem BLe.nth : ∀ {bs' : List (Nat × Nat)} {cs' : List (List Value)} {bs : List (Nat × Nat)} {cs : List (List Value)}, BLe bs' cs' bs cs → ∀ j, j < cs.length →
    Sx.nth (0, 0) bs' j = Sx.nth (0, 0) bs j ∧ Sx.nth [] cs' j = Sx.nth [] cs j ∧ j < cs'.length
  | _, _, [], [], _, j, hj => by simp at hj
  | b' :: bs', c' :: cs', b :: bs, c :: cs, h, 0, _ => ⟨h.1.1, h.1.2, by simp⟩
  | b' :: bs', c' :: cs', b :: bs, c :: cs, h, j + 1, hj => by
    obtain ⟨h1, h2, h3⟩ := BLe.nth h.2 j (by simpa using hj)
    exact ⟨h1, h2, by simp [h3]⟩
  | [], _, _ :: _, _, h, _, _ => by simp [BLe] at h
  | [], _, [], _ :: _, h, _, _ => by simp [BLe] at h
  | _ :: _, [], _ :: _, _, h, _, _ => by simp [BLe] at h
  | _ :: _, _, [], _ :: _, h, _, _ => by simp [BLe] at h
  | _ :: _, _, _ :: _, [], h, _, hj => by simp at hj

theorem heldK_sound {E : List (Nat × Dep)} {bs bs' : List (Nat × Nat)} {cs cs' : List (List Value)} {D D' : Fx} {K : Prop} (h : heldK E bs cs D bs' cs' D' K) :
    K ∧ ∀ i dep, (i, dep) ∈ E → (DepIn cs dep → DepIn cs' dep) ∧ ∀ w, DepIn cs dep → DepOk w0 R av bs' cs' D' dep w → DepOk w0 R av bs cs D dep w := by
  unfold heldK at h
  split at h
  · rename_i hm
    have hb := h.box
    refine ⟨h.rest, fun i dep hi => ?_⟩
    cases dep with
    | none => exact ⟨fun _ => trivial, fun _ _ _ => trivial⟩
    | all =>
      refine ⟨fun _ => trivial, fun w _ hst => ?_⟩
      have hst : St w0 R av w bs' cs' D' := hst
      obtain ⟨e, f, rfl, rfl, hl⟩ := h.box.parts hst.box.len.symm
      exact (hst.left hl).ent h.data
    | box j =>
      refine ⟨fun hj => (hb.nth j hj).2.2, fun w hj hw => ?_⟩
      obtain ⟨e1, e2, _⟩ := hb.nth j hj
      show Range w _ _ _
      rw [← e1, ← e2]
      exact hw
  · rename_i hm
    obtain ⟨h1, h2⟩ := boxesK_iff h
    refine ⟨h1, fun i dep hi => ?_⟩
    cases dep with
    | none => exact ⟨fun _ => trivial, fun _ _ _ => trivial⟩
    | all => rw [anyAll_mem hi] at hm; cases hm
    | box j =>
      obtain ⟨e1, e2, e3⟩ := h2 i j hi
      exact ⟨fun _ => e3, fun w _ hw => by
        show Range w _ _ _
        rw [← e1, ← e2]
        exact hw⟩

def left (L' : Array Bool) : Nat := (L'.toList.filter fun b => !b).length

theorem left_set {L' : Array Bool} {i : Nat} (hi : i < L'.size) (h : L'.getD i false = false) : left (L'.setIfInBounds i true) + 1 = left L' := by
  unfold left
  rw [Array.toList_setIfInBounds]
  have hi' : i < L'.toList.length := by simpa using hi
  have hv : L'.toList[i] = false := by
    have : L'[i] = false := by simpa [Array.getD, hi] using h
    simpa using this
  generalize L'.toList = l at hi' hv
  clear h hi
  induction l generalizing i with
  | nil => simp at hi'
  | cons x xs ih =>
    cases i with
    | zero =>
      simp at hv
      subst hv
      simp
    | succ i =>
      have := ih (i := i) (by simpa using hi') (by simpa using hv)
      cases x <;> simp <;> omega

theorem xany_sound (hT : TabOk P tab) {ops : Array Oper} {Q : Exit → Act → World → Prop} (hns : noSel ops.toList = true) (hbk : allBack ops.toList 0 = true) {K : KT} (hQ : ∀ act w, LiftN w0 R av K act w → Q .normal act w) :
    ∀ (s n m : Nat) (L : List Bool) (L' : Array Bool) (E : List (Nat × Dep)) (tm : List SV) (bs : List (Nat × Nat)) (cs : List (List Value)) (D : Fx) (a a' : Array Value) (w : World),
      n + m ≤ s → left L' ≤ m → xany P tab w0 R av ops.toList n L E tm bs cs D K → FrameOk bs tm a → St w0 R av w bs cs D → Sim P w0 R av ops L L' E bs cs D a a' → wpAny P .any ops Q m L' ⟨a', []⟩ w := by
  intro s
  induction s with
  | zero =>
    intro n m L L' E tm bs cs D a a' w hs hm h hf hst hsim
    obtain rfl : n = 0 := by omega
    exact h.elim
  | succ s ih =>
    intro n m L L' E tm bs cs D a a' w hs hm h hf hst hsim
    cases n with
    | zero => exact h.elim
    | succ n =>
      have hX := h
      simp only [xany] at h
      cases hq : findQ tab ops.toList tm L ops.toList 0 with
      | some im =>
        obtain ⟨i, mm⟩ := im
        rw [hq] at h
        simp only at h
        obtain ⟨hil, h⟩ := nthK_iff default h
        obtain ⟨k, o, d, hk, hik, hun, hwt, hrd, hdst, hfree⟩ := findQ_parts hq
        rw [Nat.zero_add] at hik
        subst hik
        have hnth : nth default ops.toList i = o := by rw [nth_eq, hk]; rfl
        rw [hnth] at h
        have hops : ops[i]? = some o := by rw [← Array.getElem?_toList]; exact hk
        have hF := free_of (by simpa using hil) hfree
        have hiL : i < L.length := by rw [hsim.len]; simpa using hil
        have hL' : L'.getD i false = false := by
          cases hc : L'.getD i false with
          | false => rfl
          | true => rw [hsim.sub i hc] at hun; cases hun
        -- the new canonical state
        have key : ∀ (v : Value) (sv : SV) (dep : Dep), SVok bs sv v → DepIn cs dep → (Region.wanted o (yielded ops a) = true ∧ (∀ w, DepOk w0 R av bs cs D dep w → (execOp (Act.eval ⟨a, []⟩) o).run P w = .ok (.value v) w) ∨ (Region.wanted o (yielded ops a) = false ∧ v = undef)) →
            ∀ tm', FrameOk bs tm' (a.setIfInBounds d v) → d < a.size → xany P tab w0 R av ops.toList n (setB L i) ((i, dep) :: E) tm' bs cs D K → wpAny P .any ops Q m L' ⟨a', []⟩ w := by
          intro v sv dep hsv hdi hy tm' hf' hda hx
          refine ih n m (setB L i) L' ((i, dep) :: E) tm' bs cs D (a.setIfInBounds d v) a' w (by omega) hm hx hf' hst ?_
          have hlook : ∀ (k : Nat) (ok : Oper), ops[k]? = some ok → (k = i ∨ nthB L k = true) → looks ops.toList d ok = false := by
            intro k ok hk' hor
            cases hl : looks ops.toList d ok with
            | false => rfl
            | true =>
              rcases hor with rfl | hor
              · rw [hops] at hk'; cases hk'; rw [hF.own] at hl; cases hl
              · have hki : k ≠ i := fun e => by subst e; rw [hun] at hor; cases hor
                have := hF.looked k ok (by rw [Array.getElem?_toList]; exact hk') hki hl
                obtain ⟨e, he, hb, rfl⟩ := after1_iff.1 this
                have := waitsOk_iff.1 (hsim.closed k ok hk' hor) e he hb
                rw [hun] at this
                cases this
          have hsame : ∀ (k : Nat) (ok : Oper), ops[k]? = some ok → (k = i ∨ nthB L k = true) →
              execOp (Act.eval ⟨a.setIfInBounds d v, []⟩) ok = execOp (Act.eval ⟨a, []⟩) ok ∧ Region.wanted ok (yielded ops (a.setIfInBounds d v)) = Region.wanted ok (yielded ops a) := by
            intro k ok hk' hor
            refine same_of_agree (noSel_at hns k ok (by rw [Array.getElem?_toList]; exact hk')) fun t ht => ?_
            refine put_ne fun e => ?_
            subst e
            rw [hlook k ok hk' hor] at ht
            cases ht
          refine ⟨by rw [setB_eq]; simp [hsim.len], hsim.len', fun k hk' => (nthB_setB hiL).2 (.inr (hsim.sub k hk')), ?_, hsim.closed', by simp [hsim.size], ?_, ?_⟩
          · intro k ok hk' hkL
            refine waitsOk_iff.2 fun e he hb => (nthB_setB hiL).2 (.inr ?_)
            rcases (nthB_setB hiL).1 hkL with rfl | hkL
            · rw [hops] at hk'; cases hk'
              exact waitsOk_iff.1 hwt e he hb
            · exact waitsOk_iff.1 (hsim.closed k ok hk' hkL) e he hb
          · intro t ht
            have htd : d ≠ t := fun e => ht i o hops ((nthB_setB hiL).2 (.inl rfl)) hL' (by rw [hdst, e])
            rw [put_ne htd]
            exact hsim.agree t fun k ok hk' hkL hkL' => ht k ok hk' ((nthB_setB hiL).2 (.inr hkL)) hkL'
          · intro k hkL1 hkL'
            rcases (nthB_setB hiL).1 hkL1 with rfl | hkL
            · refine ⟨o, d, dep, v, hops, hdst, List.mem_cons_self .., hF, put_self hda, hdi, ?_⟩
              obtain ⟨e1, e2⟩ := hsame k o hops (.inl rfl)
              rw [e1, e2]
              rcases hy with ⟨y1, y2⟩ | y
              · exact .inl ⟨y1, y2⟩
              · exact .inr y
            · obtain ⟨o1, d1, m1, v1, g1, g2, g3, g4, g5, gd, g6⟩ := hsim.early k hkL hkL'
              have hki : k ≠ i := fun e => by subst e; rw [hun] at hkL; cases hkL
              have hdd : d ≠ d1 := fun e => by
                subst e
                exact hF.alone k o1 (by rw [Array.getElem?_toList]; exact g1) hki g2
              refine ⟨o1, d1, m1, v1, g1, g2, List.mem_cons_of_mem _ g3, g4, by rw [put_ne hdd]; exact g5, gd, ?_⟩
              obtain ⟨e1, e2⟩ := hsame k o1 g1 (.inr hkL)
              rw [e1, e2]
              exact g6
        rcases wantK_sound hf h with ⟨hw, h⟩ | ⟨hw, h⟩
        · obtain ⟨v, sv, dep, h1, hdi, h2, h3⟩ := xread_sound hT hf h
          rw [hdst] at h3
          obtain ⟨hdl, h3⟩ := setK_iff h3
          obtain ⟨tm', h4, h5⟩ := guardSplit_sound (hf.set d h2) h3
          exact key v sv dep h2 hdi (.inl ⟨hw, h1⟩) tm' h4 (by rw [← hf.len]; exact hdl) h5
        · rw [hdst] at h
          obtain ⟨hdl, h⟩ := setK_iff h
          exact key undef (.v undef) .none rfl trivial (.inr ⟨hw, rfl⟩) _ (hf.set d (s := .v undef) rfl) (by rw [← hf.len]; exact hdl) h
      | none =>
        rw [hq] at h
        simp only at h
        -- an early one is run
        have hearly : ∀ (m' j : Nat), m = m' + 1 → j ∈ Region.ready .any ops L' → nthB L j = true → wpOp P ops Q j (wpAny P .any ops Q m' (L'.setIfInBounds j true)) ⟨a', []⟩ w := by
          intro m' j hm' hj hjL
          obtain ⟨hj0, o, hoj, hall⟩ := mem_ready.1 hj
          have hjs : j < ops.size := lt_of_some hoj
          have hjL' : L'.getD j false = false := by rw [← getD_false (by rw [hsim.len']; exact hjs)]; exact hj0
          obtain ⟨o1, d, mm, v, g1, g2, g3, g4, g5, gd, g6⟩ := hsim.early j hjL hjL'
          rw [hoj] at g1
          cases g1
          obtain ⟨e1, e2⟩ := same_of_agree (noSel_at hns j o (by rw [Array.getElem?_toList]; exact hoj)) (hsim.looked hoj hall hjL')
          have hcont : wpAny P .any ops Q m' (L'.setIfInBounds j true) (Act.put ⟨a', []⟩ o.dst v) w := by
            rw [g2]
            have hls := left_set (by rw [hsim.len']; exact hjs) hjL'
            refine ih (n + 1) m' L (L'.setIfInBounds j true) E tm bs cs D a (a'.setIfInBounds d v) w (by omega) (by omega) hX hf hst ?_
            have hset : ∀ k, (L'.setIfInBounds j true).getD k false = true ↔ k = j ∨ L'.getD k false = true := fun k => getD_setB (by rw [hsim.len']; exact hjs)
            have hnot : ∀ k, (L'.setIfInBounds j true).getD k false = false → k ≠ j ∧ L'.getD k false = false := fun k hk => by
              refine ⟨fun e => ?_, ?_⟩
              · rw [(hset k).2 (.inl e)] at hk; cases hk
              · cases hc : L'.getD k false with
                | false => rfl
                | true => rw [(hset k).2 (.inr hc)] at hk; cases hk
            refine ⟨hsim.len, by simp [hsim.len'], fun k hk => ?_, hsim.closed, closed_set hsim.closed' hoj hset hall, by simp [hsim.size], fun t ht => ?_, fun k hkL hkL' => ?_⟩
            · rcases (hset k).1 hk with rfl | hk
              · exact hjL
              · exact hsim.sub k hk
            · by_cases hdt : d = t
              · subst hdt
                rw [put_self (by rw [hsim.size]; exact lt_of_some g5), g5]
              · rw [put_ne hdt]
                refine hsim.agree t fun k ok hk hkL hkL' => ?_
                by_cases hkj : k = j
                · subst hkj
                  rw [hoj] at hk
                  cases hk
                  rw [g2]
                  simpa using hdt
                · refine ht k ok hk hkL ?_
                  cases hc : (L'.setIfInBounds j true).getD k false with
                  | false => rfl
                  | true =>
                    rcases (hset k).1 hc with hc | hc
                    · exact absurd hc hkj
                    · rw [hkL'] at hc; cases hc
            · exact hsim.early k hkL (hnot k hkL').2
          unfold wpOp
          simp only [hoj]
          rcases g6 with ⟨y1, y2⟩ | ⟨y1, rfl⟩
          · have hw : Region.wanted o (yielded ops a') = true := by rw [e2]; exact y1
            simp only [hw, if_true]
            exact .inl (wp_of_value (by rw [e1]; exact y2 w (hst.dep gd)) hcont)
          · have hw : Region.wanted o (yielded ops a') = false := by rw [e2]; exact y1
            simp only [hw, Bool.false_eq_true, if_false]
            exact hcont
        have hlisted : Region.ready .any ops L' = [] → ∀ j, j < ops.size → L'.getD j false = true := by
          intro hr j hj
          refine all_listed (l := ops.toList) hbk (p := fun j => L'.getD j false) (fun k ok hk hpk hall => ?_) j (by simpa using hj)
          have hks : k < ops.size := lt_of_some (by rw [← Array.getElem?_toList]; exact hk)
          have : k ∈ Region.ready .any ops L' := mem_ready.2 ⟨by rw [getD_false (by rw [hsim.len']; exact hks)]; exact hpk, ok, by rw [← Array.getElem?_toList]; exact hk,
            fun e he hb => hall e (Array.mem_toList_iff.2 he) hb⟩
          rw [hr] at this
          cases this
        have hleft : left L' = 0 → Region.ready .any ops L' = [] := by
          intro h0
          cases hr : Region.ready .any ops L' with
          | nil => rfl
          | cons j r =>
            have hj : j ∈ Region.ready .any ops L' := by rw [hr]; exact List.mem_cons_self ..
            obtain ⟨hj0, o, hoj, hall⟩ := mem_ready.1 hj
            have hjs : j < ops.size := lt_of_some hoj
            have := left_set (L' := L') (i := j) (by rw [hsim.len']; exact hjs) (by rw [← getD_false (by rw [hsim.len']; exact hjs)]; exact hj0)
            omega
        cases hrl : readyL L ops.toList 0 with
        | nil =>
          rw [hrl] at h
          simp only at h
          have hLall : ∀ j, j < ops.size → nthB L j = true := by
            intro j hj
            refine all_listed (l := ops.toList) hbk (p := fun j => nthB L j) (fun k ok hk hpk hall => ?_) j (by simpa using hj)
            have : k ∈ readyL L ops.toList 0 := readyL_mem.2 ⟨k, ok, hk, by omega, hpk, waitsOk_iff.2 hall⟩
            rw [hrl] at this
            cases this
          have hdone : Region.ready .any ops L' = [] → Q .normal ⟨a', []⟩ w := by
            intro hr
            have : a' = a := by
              refine Array.ext_getElem? fun t => hsim.agree t fun k ok hk _ hkL' => ?_
              rw [hlisted hr k (lt_of_some hk)] at hkL'
              cases hkL'
            subst this
            exact hQ _ _ ⟨rfl, tm, bs, cs, D, hf, hst, h⟩
          cases m with
          | zero => exact ⟨hleft (by omega), hdone (hleft (by omega))⟩
          | succ m =>
            refine ⟨hdone, fun j hj => hearly m j rfl hj (hLall j ?_)⟩
            obtain ⟨_, o, hoj, _⟩ := mem_ready.1 hj
            exact lt_of_some hoj
        | cons j0 r0 =>
          rw [hrl] at h
          simp only at h
          have hj0 : j0 ∈ readyL L ops.toList 0 := by rw [hrl]; exact List.mem_cons_self ..
          have hno : Region.ready .any ops L' ≠ [] := by
            intro hr
            obtain ⟨k, ok, hk, hjk, hun, _⟩ := readyL_mem.1 hj0
            rw [Nat.zero_add] at hjk
            subst hjk
            have hks : j0 < ops.size := lt_of_some (by rw [← Array.getElem?_toList]; exact hk)
            rw [hsim.sub j0 (hlisted hr j0 hks)] at hun
            cases hun
          cases m with
          | zero => exact absurd (hleft (by omega)) hno
          | succ m =>
            refine ⟨fun hr => absurd hr hno, fun j hj => ?_⟩
            cases hjL : nthB L j with
            | true => exact hearly m j rfl hj hjL
            | false =>
              obtain ⟨hjt, o, hoj, hall⟩ := mem_ready.1 hj
              have hjs : j < ops.size := lt_of_some hoj
              have hojl : ops.toList[j]? = some o := by rw [Array.getElem?_toList]; exact hoj
              have hjL' : L'.getD j false = false := by rw [← getD_false (by rw [hsim.len']; exact hjs)]; exact hjt
              have hwL : waitsOk L o.after.toList = true := waitsOk_iff.2 fun e he hb => hsim.sub _ (hall e (Array.mem_toList_iff.1 he) hb)
              have hjr : j ∈ j0 :: r0 := by rw [← hrl]; exact readyL_mem.2 ⟨j, o, hojl, by omega, hjL, hwL⟩
              have hS := allK_mem h j hjr
              obtain ⟨_, hS⟩ := nthK_iff o hS
              have hnth : nth o ops.toList j = o := by rw [nth_eq, hojl]; rfl
              rw [hnth] at hS
              obtain ⟨e1, e2⟩ := same_of_agree (noSel_at hns j o hojl) (hsim.looked hoj hall hjL')
              have hiL : j < L.length := by rw [hsim.len]; exact hjs
              have hls := left_set (L' := L') (i := j) (by rw [hsim.len']; exact hjs) hjL'
              have hset : ∀ k, (L'.setIfInBounds j true).getD k false = true ↔ k = j ∨ L'.getD k false = true := fun k => getD_setB (by rw [hsim.len']; exact hjs)
              -- the state behind it
              have key : ∀ (v : Value) (w' : World) (tm' : List SV) (bs' : List (Nat × Nat)) (cs' : List (List Value)) (D' : Fx), FrameOk bs' tm' (Act.put ⟨a, []⟩ o.dst v).tmps → St w0 R av w' bs' cs' D' →
                  (∀ i dep, (i, dep) ∈ dropE ops.toList o.after.toList E → (DepIn cs dep → DepIn cs' dep) ∧ ∀ w, DepIn cs dep → DepOk w0 R av bs' cs' D' dep w → DepOk w0 R av bs cs D dep w) →
                  xany P tab w0 R av ops.toList n (setB L j) (dropE ops.toList o.after.toList E) tm' bs' cs' D' K →
                  wpAny P .any ops Q m (L'.setIfInBounds j true) ⟨(Act.put ⟨a', []⟩ o.dst v).tmps, []⟩ w' := by
                intro v w' tm' bs' cs' D' hf' hst' hheld hx
                refine ih n m (setB L j) (L'.setIfInBounds j true) _ tm' bs' cs' D' _ _ w' (by omega) (by omega) hx hf' hst' ?_
                have hput : ∀ (b : Array Value) t, o.dst ≠ some t → (Act.put ⟨b, []⟩ o.dst v).tmps[t]? = b[t]? := by
                  intro b t ht
                  cases hd : o.dst with
                  | none => rfl
                  | some d => exact put_ne (fun e => ht (by rw [hd, e]))
                have hnot : ∀ k, (L'.setIfInBounds j true).getD k false = false → k ≠ j ∧ L'.getD k false = false := fun k hk => by
                  refine ⟨fun e => ?_, ?_⟩
                  · rw [(hset k).2 (.inl e)] at hk; cases hk
                  · cases hc : L'.getD k false with
                    | false => rfl
                    | true => rw [(hset k).2 (.inr hc)] at hk; cases hk
                have hsz : ∀ b : Array Value, (Act.put ⟨b, []⟩ o.dst v).tmps.size = b.size := by
                  intro b
                  cases o.dst <;> simp [Act.put]
                refine ⟨by rw [setB_eq]; simp [hsim.len], by simp [hsim.len'], fun k hk => ?_, fun k ok hk hkL => ?_, closed_set hsim.closed' hoj hset hall, by rw [hsz, hsz, hsim.size], fun t ht => ?_, fun k hkL hkL' => ?_⟩
                · rcases (hset k).1 hk with rfl | hk
                  · exact (nthB_setB hiL).2 (.inl rfl)
                  · exact (nthB_setB hiL).2 (.inr (hsim.sub k hk))
                · refine waitsOk_iff.2 fun e he hb => (nthB_setB hiL).2 (.inr ?_)
                  rcases (nthB_setB hiL).1 hkL with rfl | hkL
                  · rw [hoj] at hk; cases hk
                    exact waitsOk_iff.1 hwL e he hb
                  · exact waitsOk_iff.1 (hsim.closed k ok hk hkL) e he hb
                · by_cases hdt : o.dst = some t
                  · rw [hdt]
                    show (a'.setIfInBounds t v)[t]? = (a.setIfInBounds t v)[t]?
                    rw [Array.getElem?_setIfInBounds, Array.getElem?_setIfInBounds, hsim.size]
                    simp
                  · rw [hput a' t hdt, hput a t hdt]
                    refine hsim.agree t fun k ok hk hkL hkL' => ?_
                    have hkj : k ≠ j := fun e => by subst e; rw [hjL] at hkL; cases hkL
                    refine ht k ok hk ((nthB_setB hiL).2 (.inr hkL)) ?_
                    cases hc : (L'.setIfInBounds j true).getD k false with
                    | false => rfl
                    | true =>
                      rcases (hset k).1 hc with hc | hc
                      · exact absurd hc hkj
                      · rw [hkL'] at hc; cases hc
                · obtain ⟨hkj, hkL'⟩ := hnot k hkL'
                  have hkL2 : nthB L k = true := ((nthB_setB hiL).1 hkL).resolve_left hkj
                  obtain ⟨o1, d1, m1, v1, g1, g2, g3, g4, g5, gd, g6⟩ := hsim.early k hkL2 hkL'
                  have hdd : o.dst ≠ some d1 := g4.alone j o hojl (Ne.symm hkj)
                  have hin : (k, m1) ∈ dropE ops.toList o.after.toList E := by
                    refine dropE_mem g3 ?_
                    cases hc : afterT ops.toList 3 k o.after.toList with
                    | false => rfl
                    | true =>
                      rw [afterT_done hsim.closed' 3 (fun e he hb => hall e (Array.mem_toList_iff.1 he) hb) hc] at hkL'
                      cases hkL'
                  refine ⟨o1, d1, m1, v1, g1, g2, hin, g4, by rw [hput a d1 hdd]; exact g5, (hheld k m1 hin).1 gd, ?_⟩
                  obtain ⟨f1, f2⟩ := same_of_agree (ops := ops) (a := a) (a' := (Act.put ⟨a, []⟩ o.dst v).tmps) (noSel_at hns k o1 (by rw [Array.getElem?_toList]; exact g1)) fun t ht => by
                    refine hput a t fun hd => ?_
                    have := g4.looking j o t hojl (Ne.symm hkj) hd ht
                    obtain ⟨e, he, hb, rfl⟩ := after1_iff.1 this
                    have := waitsOk_iff.1 (hsim.closed k o1 g1 hkL2) e he hb
                    rw [hjL] at this
                    cases this
                  rw [f1, f2]
                  rcases g6 with ⟨y1, y2⟩ | y
                  · exact .inl ⟨y1, fun w hw => y2 w ((hheld k m1 hin).2 w gd hw)⟩
                  · exact .inr y
              unfold wpOp
              simp only [hoj]
              rcases wantK_sound hf hS with ⟨hw, hS⟩ | ⟨hw, hS⟩
              · have hw' : Region.wanted o (yielded ops a') = true := by rw [e2]; exact hw
                simp only [hw', if_true]
                refine .inl (wp_carry e1 (fun act w h => h.1) ?_ (xop_sound hT hf hst hS _))
                rintro v w' ⟨hd, tm', bs', cs', D', h1, h2, h3⟩
                obtain ⟨h3, h4⟩ := heldK_sound (w0 := w0) (R := R) (av := av) h3
                obtain ⟨tm2, h5, h6⟩ := guardSplit_sound h1 h3
                have := key v w' tm2 bs' cs' D' h5 h2 h4 h6
                rwa [← act_eta (put_defers _ _ _)] at this
              · have hw' : Region.wanted o (yielded ops a') = false := by rw [e2]; exact hw
                simp only [hw', Bool.false_eq_true, if_false]
                obtain ⟨tm', h1, h2⟩ := hf.put o.dst (s := .v undef) (y := undef) rfl hS
                have := key undef w tm' bs cs D h1 hst (fun _ _ _ => ⟨fun h => h, fun w _ h => h⟩) h2
                rwa [← act_eta (put_defers _ _ _)] at this

def falsesK : List Oper → (List Bool → Prop) → Prop
  | [], K => K []
  | _ :: r, K => falsesK r fun l => K (false :: l)

theorem falsesK_iff : ∀ {l : List Oper} {K : List Bool → Prop}, falsesK l K → K (List.replicate l.length false)
  | [], _, h => h
  | _ :: r, K, h => falsesK_iff (l := r) h

/-- A statement whose order is open. -/
theorem XStop.draw (hT : TabOk P tab) (hm : P.follows .mixedOrders = true) {id : Nat} {l : List Oper} {tm : List SV} {bs : List (Nat × Nat)} {cs : List (List Value)} {D : Fx} {K : Exit → KT} (hns : noSel l = true)
    (hbk : allBack l 0 = true) (h : falsesK l fun L => xany P tab w0 R av l 1000 L [] tm bs cs D (K .normal)) : XStop P w0 R av (.region id ⟨l⟩ true) tm bs cs D K := by
  have h := falsesK_iff h
  refine XStop_iff.2 fun a w hf hst => wp_region_any hm ?_
  have hst' : St w0 R av { w with drawn := w.drawn + 1 } bs cs D := hst.keptD ⟨rfl, rfl, rfl, Nat.le_refl _, fun b o ho => ⟨o, ho, .refl _ _⟩⟩
  have hnB : ∀ i, nthB (List.replicate l.length false) i = false := fun i => by
    rw [nthB_eq, List.getElem?_replicate]
    split <;> rfl
  refine xany_sound hT (ops := ⟨l⟩) hns hbk (K := K .normal) (fun act w h => h) _ 1000 _ (List.replicate l.length false) _ [] tm bs cs D a a _ (Nat.le_refl _) ?_ h hf hst' ?_
  · unfold left
    simp
  · refine ⟨by simp, by simp, fun i hi => ?_, fun i o _ hi => ?_, fun i o _ hi => ?_, rfl, fun _ _ => rfl, fun i hi => ?_⟩
    · simp [Array.getD] at hi
    · rw [hnB] at hi; cases hi
    · simp [Array.getD] at hi
    · rw [hnB] at hi; cases hi

theorem BLe.same : ∀ {bs : List (Nat × Nat)} {cs : List (List Value)}, bs.length = cs.length → BLe bs cs bs cs
  | [], [], _ => trivial
  | _ :: _, _ :: _, h => ⟨⟨rfl, rfl⟩, BLe.same (by simpa using h)⟩
  | [], _ :: _, h => by simp at h
  | _ :: _, [], h => by simp at h

theorem Ent.left (F F' : Fx) : Ent (F.and F') F := .of_le ⟨List.sublist_append_left _ _, fun _ h => h.1⟩

/-- Behind a call that leaves the boxes alone. -/
theorem XHeld.call {bs : List (Nat × Nat)} {cs : List (List Value)} {F F' : Fx} {K : Prop} (hl : bs.length = cs.length) (h : K) : XHeld bs cs F bs cs (F.and F') K := ⟨BLe.same hl, Ent.left _ _, h⟩

theorem XHeld.same {bs : List (Nat × Nat)} {cs : List (List Value)} {F : Fx} {K : Prop} (hl : bs.length = cs.length) (h : K) : XHeld bs cs F bs cs F K := ⟨BLe.same hl, Ent.refl _, h⟩

/-- Behind an operation that makes a row. -/
theorem XHeld.row {bs : List (Nat × Nat)} {cs : List (List Value)} {F : Fx} {rs : List (Nat × Row)} {K : Prop} (hl : bs.length = cs.length) (h : K) : XHeld bs cs F bs cs ⟨F.D, F.rs ++ rs⟩ K :=
  ⟨BLe.same hl, .of_le ⟨List.sublist_append_left _ _, fun _ h => h⟩, h⟩

end
end Go.Sx
