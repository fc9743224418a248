/- Parts of the proof: SxP, SxQ, SxR, SxS, SxT, SxU, SxV, SxW, SxX, SxY. -/
import Derived.Test.YtakammghcodmgaaGreatDoorQA
import Derived.Laws.Strings
namespace Go.Sx
set_option linter.unusedVariables false

section
variable {P : Program} {tab : Tab} {w0 : World} {R : Nat → Nat → Prop} {av : Nat → Prop}

theorem heldK_sound {E : List (Nat × Dep)} {bs bs' : List (Nat × Nat)} {cs cs' : List (List Value)} {D D' : Fx} {K : Prop} (h : heldK E bs cs D bs' cs' D' K) :
 K ∧ ∀ i dep, (i, dep) ∈ E → (DepIn cs dep → DepIn cs' dep) ∧ ∀ w, DepIn cs dep → DepOk w0 R av bs' cs' D' dep w → DepOk w0 R av bs cs D dep w := by
 have key : boxesK bs cs bs' cs' K E → (∀ i, (i, Dep.all) ∈ E → Ent D' D) → (∀ i, (i, Dep.fact) ∈ E → Ent ⟨D'.D, []⟩ ⟨D.D, []⟩) → K ∧ ∀ i dep, (i, dep) ∈ E → (DepIn cs dep → DepIn cs' dep) ∧ ∀ w, DepIn cs dep → DepOk w0 R av bs' cs' D' dep w → DepOk w0 R av bs cs D dep w := by
  intro hb ha hfa
  obtain ⟨h1, h2⟩ := boxesK_iff hb
  refine ⟨h1, fun i dep hi => ?_⟩
  cases dep with
  | none => exact ⟨fun _ => trivial, fun _ _ _ => trivial⟩
  | base => exact ⟨fun _ => trivial, fun _ _ h => h⟩
  | all =>
   refine ⟨fun _ => trivial, fun w _ hst => ?_⟩
   have hst : St w0 R av w [] [] D' := hst
   exact hst.ent (ha i hi)
  | fact =>
   refine ⟨fun _ => trivial, fun w _ hst => ?_⟩
   have hst : St w0 R av w [] [] ⟨D'.D, []⟩ := hst
   exact hst.ent (hfa i hi)
  | box j =>
   obtain ⟨e1, e2, e3⟩ := h2 i j hi
   exact ⟨fun _ => e3, fun w _ hw => by
    show Range w _ _ _
    rw [← e1, ← e2]
    exact hw⟩
 unfold heldK at h
 split at h
 · have hd := h.data
   have hr := h.rest
   split at hr
   · exact key hr.rest (fun _ _ => hd) (fun _ _ => hr.data)
   · rename_i hm2
     exact key hr (fun _ _ => hd) (fun i hi => by rw [anyFact_mem hi] at hm2; cases hm2)
 · rename_i hm
   split at h
   · exact key h.rest (fun i hi => by rw [anyAll_mem hi] at hm; cases hm) (fun _ _ => h.data)
   · rename_i hm2
     exact key h (fun i hi => by rw [anyAll_mem hi] at hm; cases hm) (fun i hi => by rw [anyFact_mem hi] at hm2; cases hm2)

def left (L' : Array Bool) : Nat := (L'.toList.filter fun b => !b).length

theorem left_set {L' : Array Bool} {i : Nat} (hi : i < L'.size) (h : L'.getD i false = false) : left (L'.setIfInBounds i true) + 1 = left L' := by
 unfold left
 rw [Array.toList_setIfInBounds]
 have hi' : i < L'.toList.length := by simpa using hi
 have hv : L'.toList[i] = false := by
  have : L'[i] = false := by simpa [Array.getD, hi] using h
  simpa using this
 generalize L'.toList = l at hi' hv
 clear h hi
 induction l generalizing i with
 | nil => simp at hi'
 | cons x xs ih =>
  cases i with
  | zero =>
   simp at hv
   subst hv
   simp
  | succ i =>
   have := ih (i := i) (by simpa using hi') (by simpa using hv)
   cases x <;> simp <;> omega

theorem xany_sound (hT : TabOk P tab) {fl : Bool} {ops : Array Oper} {Q : Exit → Act → World → Prop} (hns : noSel ops.toList = true) (hbk : allBack ops.toList 0 = true) {K : KT} (hQ : ∀ act w, LiftN w0 R av K act w → Q .normal act w) :
 ∀ (s n m : Nat) (L : List Bool) (L' : Array Bool) (E : List (Nat × Dep)) (tm : List SV) (bs : List (Nat × Nat)) (cs : List (List Value)) (D : Fx) (a a' : Array Value) (w : World),
  n + m ≤ s → left L' ≤ m → xany P tab w0 R av fl ops.toList n L E tm bs cs D K → FrameOk bs tm a → St w0 R av w bs cs D → Sim P w0 R av ops L L' E bs cs D a a' → wpAny P .any ops Q m L' ⟨a', []⟩ w := by
 intro s
 induction s with
 | zero =>
  intro n m L L' E tm bs cs D a a' w hs hm h hf hst hsim
  obtain rfl : n = 0 := by omega
  exact h.elim
 | succ s ih =>
  intro n m L L' E tm bs cs D a a' w hs hm h hf hst hsim
  cases n with
  | zero => exact h.elim
  | succ n =>
   have hX := h
   simp only [xany] at h
   cases hq : findQ tab ops.toList tm L ops.toList 0 with
   | some im =>
    obtain ⟨i, mm⟩ := im
    rw [hq] at h
    simp only at h
    obtain ⟨hil, h⟩ := nthK_iff default h
    obtain ⟨k, o, d, hk, hik, hun, hwt, hrd, hdst, hfree⟩ := findQ_parts hq
    rw [Nat.zero_add] at hik
    subst hik
    have hnth : nth default ops.toList i = o := by rw [nth_eq, hk]; rfl
    rw [hnth] at h
    have hops : ops[i]? = some o := by rw [← Array.getElem?_toList]; exact hk
    have hF := free_of (by simpa using hil) hfree
    have hiL : i < L.length := by rw [hsim.len]; simpa using hil
    have hL' : L'.getD i false = false := by
     cases hc : L'.getD i false with
     | false => rfl
     | true => rw [hsim.sub i hc] at hun; cases hun
    -- the new canonical state
    have key : ∀ (v : Value) (sv : SV) (dep : Dep), SVok bs sv v → DepIn cs dep → (Region.wanted o (yielded ops a) = true ∧ (∀ w, DepOk w0 R av bs cs D dep w → (execOp (Act.eval ⟨a, []⟩) o).run P w = .ok (.value v) w) ∨ (Region.wanted o (yielded ops a) = false ∧ v = undef)) →
     ∀ tm', FrameOk bs tm' (a.setIfInBounds d v) → d < a.size → xany P tab w0 R av fl ops.toList n (setB L i) ((i, dep) :: E) tm' bs cs D K → wpAny P .any ops Q m L' ⟨a', []⟩ w := by
     intro v sv dep hsv hdi hy tm' hf' hda hx
     refine ih n m (setB L i) L' ((i, dep) :: E) tm' bs cs D (a.setIfInBounds d v) a' w (by omega) hm hx hf' hst ?_
     have hlook : ∀ (k : Nat) (ok : Oper), ops[k]? = some ok → (k = i ∨ nthB L k = true) → looks ops.toList d ok = false := by
      intro k ok hk' hor
      cases hl : looks ops.toList d ok with
      | false => rfl
      | true =>
       rcases hor with rfl | hor
       · rw [hops] at hk'; cases hk'; rw [hF.own] at hl; cases hl
       · have hki : k ≠ i := fun e => by subst e; rw [hun] at hor; cases hor
         have := hF.looked k ok (by rw [Array.getElem?_toList]; exact hk') hki hl
         obtain ⟨e, he, hb, rfl⟩ := after1_iff.1 this
         have := waitsOk_iff.1 (hsim.closed k ok hk' hor) e he hb
         rw [hun] at this
         cases this
     have hsame : ∀ (k : Nat) (ok : Oper), ops[k]? = some ok → (k = i ∨ nthB L k = true) →
      execOp (Act.eval ⟨a.setIfInBounds d v, []⟩) ok = execOp (Act.eval ⟨a, []⟩) ok ∧ Region.wanted ok (yielded ops (a.setIfInBounds d v)) = Region.wanted ok (yielded ops a) := by
      intro k ok hk' hor
      refine same_of_agree (noSel_at hns k ok (by rw [Array.getElem?_toList]; exact hk')) fun t ht => ?_
      refine put_ne fun e => ?_
      subst e
      rw [hlook k ok hk' hor] at ht
      cases ht
     refine ⟨by rw [setB_eq]; simp [hsim.len], hsim.len', fun k hk' => (nthB_setB hiL).2 (.inr (hsim.sub k hk')), ?_, hsim.closed', by simp [hsim.size], ?_, ?_⟩
     · intro k ok hk' hkL
       refine waitsOk_iff.2 fun e he hb => (nthB_setB hiL).2 (.inr ?_)
       rcases (nthB_setB hiL).1 hkL with rfl | hkL
       · rw [hops] at hk'; cases hk'
         exact waitsOk_iff.1 hwt e he hb
       · exact waitsOk_iff.1 (hsim.closed k ok hk' hkL) e he hb
     · intro t ht
       have htd : d ≠ t := fun e => ht i o hops ((nthB_setB hiL).2 (.inl rfl)) hL' (by rw [hdst, e])
       rw [put_ne htd]
       exact hsim.agree t fun k ok hk' hkL hkL' => ht k ok hk' ((nthB_setB hiL).2 (.inr hkL)) hkL'
     · intro k hkL1 hkL'
       rcases (nthB_setB hiL).1 hkL1 with rfl | hkL
       · refine ⟨o, d, dep, v, hops, hdst, List.mem_cons_self .., hF, put_self hda, hdi, ?_⟩
         obtain ⟨e1, e2⟩ := hsame k o hops (.inl rfl)
         rw [e1, e2]
         rcases hy with ⟨y1, y2⟩ | y
         · exact .inl ⟨y1, y2⟩
         · exact .inr y
       · obtain ⟨o1, d1, m1, v1, g1, g2, g3, g4, g5, gd, g6⟩ := hsim.early k hkL hkL'
         have hki : k ≠ i := fun e => by subst e; rw [hun] at hkL; cases hkL
         have hdd : d ≠ d1 := fun e => by
          subst e
          exact hF.alone k o1 (by rw [Array.getElem?_toList]; exact g1) hki g2
         refine ⟨o1, d1, m1, v1, g1, g2, List.mem_cons_of_mem _ g3, g4, by rw [put_ne hdd]; exact g5, gd, ?_⟩
         obtain ⟨e1, e2⟩ := hsame k o1 g1 (.inr hkL)
         rw [e1, e2]
         exact g6
    rcases wantK_sound hf h with ⟨hw, h⟩ | ⟨hw, h⟩
    · obtain ⟨v, sv, dep, h1, hdi, h2, h3⟩ := xread_sound hT hf h
      rw [hdst] at h3
      obtain ⟨hdl, h3⟩ := setK_iff h3
      obtain ⟨tm', h4, h5⟩ := guardSplit_sound (hf.set d h2) h3
      exact key v sv dep h2 hdi (.inl ⟨hw, h1⟩) tm' h4 (by rw [← hf.len]; exact hdl) h5
    · rw [hdst] at h
      obtain ⟨hdl, h⟩ := setK_iff h
      exact key undef (.v undef) .none rfl trivial (.inr ⟨hw, rfl⟩) _ (hf.set d (s := .v undef) rfl) (by rw [← hf.len]; exact hdl) h
   | none =>
    rw [hq] at h
    simp only at h
    -- an early one is run
    have hearly : ∀ (m' j : Nat), m = m' + 1 → j ∈ Region.ready .any ops L' → nthB L j = true → wpOp P ops Q j (wpAny P .any ops Q m' (L'.setIfInBounds j true)) ⟨a', []⟩ w := by
     intro m' j hm' hj hjL
     obtain ⟨hj0, o, hoj, hall⟩ := mem_ready.1 hj
     have hjs : j < ops.size := lt_of_some hoj
     have hjL' : L'.getD j false = false := by rw [← getD_false (by rw [hsim.len']; exact hjs)]; exact hj0
     obtain ⟨o1, d, mm, v, g1, g2, g3, g4, g5, gd, g6⟩ := hsim.early j hjL hjL'
     rw [hoj] at g1
     cases g1
     obtain ⟨e1, e2⟩ := same_of_agree (noSel_at hns j o (by rw [Array.getElem?_toList]; exact hoj)) (hsim.looked hoj hall hjL')
     have hcont : wpAny P .any ops Q m' (L'.setIfInBounds j true) (Act.put ⟨a', []⟩ o.dst v) w := by
      rw [g2]
      have hls := left_set (by rw [hsim.len']; exact hjs) hjL'
      refine ih (n + 1) m' L (L'.setIfInBounds j true) E tm bs cs D a (a'.setIfInBounds d v) w (by omega) (by omega) hX hf hst ?_
      have hset : ∀ k, (L'.setIfInBounds j true).getD k false = true ↔ k = j ∨ L'.getD k false = true := fun k => getD_setB (by rw [hsim.len']; exact hjs)
      have hnot : ∀ k, (L'.setIfInBounds j true).getD k false = false → k ≠ j ∧ L'.getD k false = false := fun k hk => by
       refine ⟨fun e => ?_, ?_⟩
       · rw [(hset k).2 (.inl e)] at hk; cases hk
       · cases hc : L'.getD k false with
         | false => rfl
         | true => rw [(hset k).2 (.inr hc)] at hk; cases hk
      refine ⟨hsim.len, by simp [hsim.len'], fun k hk => ?_, hsim.closed, closed_set hsim.closed' hoj hset hall, by simp [hsim.size], fun t ht => ?_, fun k hkL hkL' => ?_⟩
      · rcases (hset k).1 hk with rfl | hk
        · exact hjL
        · exact hsim.sub k hk
      · by_cases hdt : d = t
        · subst hdt
          rw [put_self (by rw [hsim.size]; exact lt_of_some g5), g5]
        · rw [put_ne hdt]
          refine hsim.agree t fun k ok hk hkL hkL' => ?_
          by_cases hkj : k = j
          · subst hkj
            rw [hoj] at hk
            cases hk
            rw [g2]
            simpa using hdt
          · refine ht k ok hk hkL ?_
            cases hc : (L'.setIfInBounds j true).getD k false with
            | false => rfl
            | true =>
             rcases (hset k).1 hc with hc | hc
             · exact absurd hc hkj
             · rw [hkL'] at hc; cases hc
      · exact hsim.early k hkL (hnot k hkL').2
     unfold wpOp
     simp only [hoj]
     rcases g6 with ⟨y1, y2⟩ | ⟨y1, rfl⟩
     · have hw : Region.wanted o (yielded ops a') = true := by rw [e2]; exact y1
       simp only [hw, if_true]
       exact .inl (wp_of_value (by rw [e1]; exact y2 w (hst.dep gd)) hcont)
     · have hw : Region.wanted o (yielded ops a') = false := by rw [e2]; exact y1
       simp only [hw, Bool.false_eq_true, if_false]
       exact hcont
    have hlisted : Region.ready .any ops L' = [] → ∀ j, j < ops.size → L'.getD j false = true := by
     intro hr j hj
     refine all_listed (l := ops.toList) hbk (p := fun j => L'.getD j false) (fun k ok hk hpk hall => ?_) j (by simpa using hj)
     have hks : k < ops.size := lt_of_some (by rw [← Array.getElem?_toList]; exact hk)
     have : k ∈ Region.ready .any ops L' := mem_ready.2 ⟨by rw [getD_false (by rw [hsim.len']; exact hks)]; exact hpk, ok, by rw [← Array.getElem?_toList]; exact hk,
      fun e he hb => hall e (Array.mem_toList_iff.2 he) hb⟩
     rw [hr] at this
     cases this
    have hleft : left L' = 0 → Region.ready .any ops L' = [] := by
     intro h0
     cases hr : Region.ready .any ops L' with
     | nil => rfl
     | cons j r =>
      have hj : j ∈ Region.ready .any ops L' := by rw [hr]; exact List.mem_cons_self ..
      obtain ⟨hj0, o, hoj, hall⟩ := mem_ready.1 hj
      have hjs : j < ops.size := lt_of_some hoj
      have := left_set (L' := L') (i := j) (by rw [hsim.len']; exact hjs) (by rw [← getD_false (by rw [hsim.len']; exact hjs)]; exact hj0)
      omega
    cases hrl : readyL L ops.toList 0 with
    | nil =>
     rw [hrl] at h
     simp only at h
     have hLall : ∀ j, j < ops.size → nthB L j = true := by
      intro j hj
      refine all_listed (l := ops.toList) hbk (p := fun j => nthB L j) (fun k ok hk hpk hall => ?_) j (by simpa using hj)
      have : k ∈ readyL L ops.toList 0 := readyL_mem.2 ⟨k, ok, hk, by omega, hpk, waitsOk_iff.2 hall⟩
      rw [hrl] at this
      cases this
     have hdone : Region.ready .any ops L' = [] → Q .normal ⟨a', []⟩ w := by
      intro hr
      have : a' = a := by
       refine Array.ext_getElem? fun t => hsim.agree t fun k ok hk _ hkL' => ?_
       rw [hlisted hr k (lt_of_some hk)] at hkL'
       cases hkL'
      subst this
      exact hQ _ _ ⟨rfl, tm, bs, cs, D, hf, hst, h⟩
     cases m with
     | zero => exact ⟨hleft (by omega), hdone (hleft (by omega))⟩
     | succ m =>
      refine ⟨hdone, fun j hj => hearly m j rfl hj (hLall j ?_)⟩
      obtain ⟨_, o, hoj, _⟩ := mem_ready.1 hj
      exact lt_of_some hoj
    | cons j0 r0 =>
     rw [hrl] at h
     simp only at h
     have hj0 : j0 ∈ readyL L ops.toList 0 := by rw [hrl]; exact List.mem_cons_self ..
     have hno : Region.ready .any ops L' ≠ [] := by
      intro hr
      obtain ⟨k, ok, hk, hjk, hun, _⟩ := readyL_mem.1 hj0
      rw [Nat.zero_add] at hjk
      subst hjk
      have hks : j0 < ops.size := lt_of_some (by rw [← Array.getElem?_toList]; exact hk)
      rw [hsim.sub j0 (hlisted hr j0 hks)] at hun
      cases hun
     cases m with
     | zero => exact absurd (hleft (by omega)) hno
     | succ m =>
      refine ⟨fun hr => absurd hr hno, fun j hj => ?_⟩
      cases hjL : nthB L j with
      | true => exact hearly m j rfl hj hjL
      | false =>
       obtain ⟨hjt, o, hoj, hall⟩ := mem_ready.1 hj
       have hjs : j < ops.size := lt_of_some hoj
       have hojl : ops.toList[j]? = some o := by rw [Array.getElem?_toList]; exact hoj
       have hjL' : L'.getD j false = false := by rw [← getD_false (by rw [hsim.len']; exact hjs)]; exact hjt
       have hwL : waitsOk L o.after.toList = true := waitsOk_iff.2 fun e he hb => hsim.sub _ (hall e (Array.mem_toList_iff.1 he) hb)
       have hjr : j ∈ j0 :: r0 := by rw [← hrl]; exact readyL_mem.2 ⟨j, o, hojl, by omega, hjL, hwL⟩
       have hS := allK_mem h j hjr
       obtain ⟨_, hS⟩ := nthK_iff o hS
       have hnth : nth o ops.toList j = o := by rw [nth_eq, hojl]; rfl
       rw [hnth] at hS
       obtain ⟨e1, e2⟩ := same_of_agree (noSel_at hns j o hojl) (hsim.looked hoj hall hjL')
       have hiL : j < L.length := by rw [hsim.len]; exact hjs
       have hls := left_set (L' := L') (i := j) (by rw [hsim.len']; exact hjs) hjL'
       have hset : ∀ k, (L'.setIfInBounds j true).getD k false = true ↔ k = j ∨ L'.getD k false = true := fun k => getD_setB (by rw [hsim.len']; exact hjs)
       -- the state behind it
       have key : ∀ (v : Value) (w' : World) (tm' : List SV) (bs' : List (Nat × Nat)) (cs' : List (List Value)) (D' : Fx), FrameOk bs' tm' (Act.put ⟨a, []⟩ o.dst v).tmps → St w0 R av w' bs' cs' D' →
        (∀ i dep, (i, dep) ∈ dropE ops.toList o.after.toList E → (DepIn cs dep → DepIn cs' dep) ∧ ∀ w, DepIn cs dep → DepOk w0 R av bs' cs' D' dep w → DepOk w0 R av bs cs D dep w) →
        xany P tab w0 R av fl ops.toList n (setB L j) (dropE ops.toList o.after.toList E) tm' bs' cs' D' K →
        wpAny P .any ops Q m (L'.setIfInBounds j true) ⟨(Act.put ⟨a', []⟩ o.dst v).tmps, []⟩ w' := by
        intro v w' tm' bs' cs' D' hf' hst' hheld hx
        refine ih n m (setB L j) (L'.setIfInBounds j true) _ tm' bs' cs' D' _ _ w' (by omega) (by omega) hx hf' hst' ?_
        have hput : ∀ (b : Array Value) t, o.dst ≠ some t → (Act.put ⟨b, []⟩ o.dst v).tmps[t]? = b[t]? := by
         intro b t ht
         cases hd : o.dst with
         | none => rfl
         | some d => exact put_ne (fun e => ht (by rw [hd, e]))
        have hnot : ∀ k, (L'.setIfInBounds j true).getD k false = false → k ≠ j ∧ L'.getD k false = false := fun k hk => by
         refine ⟨fun e => ?_, ?_⟩
         · rw [(hset k).2 (.inl e)] at hk; cases hk
         · cases hc : L'.getD k false with
           | false => rfl
           | true => rw [(hset k).2 (.inr hc)] at hk; cases hk
        have hsz : ∀ b : Array Value, (Act.put ⟨b, []⟩ o.dst v).tmps.size = b.size := by
         intro b
         cases o.dst <;> simp [Act.put]
        refine ⟨by rw [setB_eq]; simp [hsim.len], by simp [hsim.len'], fun k hk => ?_, fun k ok hk hkL => ?_, closed_set hsim.closed' hoj hset hall, by rw [hsz, hsz, hsim.size], fun t ht => ?_, fun k hkL hkL' => ?_⟩
        · rcases (hset k).1 hk with rfl | hk
          · exact (nthB_setB hiL).2 (.inl rfl)
          · exact (nthB_setB hiL).2 (.inr (hsim.sub k hk))
        · refine waitsOk_iff.2 fun e he hb => (nthB_setB hiL).2 (.inr ?_)
          rcases (nthB_setB hiL).1 hkL with rfl | hkL
          · rw [hoj] at hk; cases hk
            exact waitsOk_iff.1 hwL e he hb
          · exact waitsOk_iff.1 (hsim.closed k ok hk hkL) e he hb
        · by_cases hdt : o.dst = some t
          · rw [hdt]
            show (a'.setIfInBounds t v)[t]? = (a.setIfInBounds t v)[t]?
            rw [Array.getElem?_setIfInBounds, Array.getElem?_setIfInBounds, hsim.size]
            simp
          · rw [hput a' t hdt, hput a t hdt]
            refine hsim.agree t fun k ok hk hkL hkL' => ?_
            have hkj : k ≠ j := fun e => by subst e; rw [hjL] at hkL; cases hkL
            refine ht k ok hk ((nthB_setB hiL).2 (.inr hkL)) ?_
            cases hc : (L'.setIfInBounds j true).getD k false with
            | false => rfl
            | true =>
             rcases (hset k).1 hc with hc | hc
             · exact absurd hc hkj
             · rw [hkL'] at hc; cases hc
        · obtain ⟨hkj, hkL'⟩ := hnot k hkL'
          have hkL2 : nthB L k = true := ((nthB_setB hiL).1 hkL).resolve_left hkj
          obtain ⟨o1, d1, m1, v1, g1, g2, g3, g4, g5, gd, g6⟩ := hsim.early k hkL2 hkL'
          have hdd : o.dst ≠ some d1 := g4.alone j o hojl (Ne.symm hkj)
          have hin : (k, m1) ∈ dropE ops.toList o.after.toList E := by
           refine dropE_mem g3 ?_
           cases hc : afterT ops.toList 3 k o.after.toList with
           | false => rfl
           | true =>
            rw [afterT_done hsim.closed' 3 (fun e he hb => hall e (Array.mem_toList_iff.1 he) hb) hc] at hkL'
            cases hkL'
          refine ⟨o1, d1, m1, v1, g1, g2, hin, g4, by rw [hput a d1 hdd]; exact g5, (hheld k m1 hin).1 gd, ?_⟩
          obtain ⟨f1, f2⟩ := same_of_agree (ops := ops) (a := a) (a' := (Act.put ⟨a, []⟩ o.dst v).tmps) (noSel_at hns k o1 (by rw [Array.getElem?_toList]; exact g1)) fun t ht => by
           refine hput a t fun hd => ?_
           have := g4.looking j o t hojl (Ne.symm hkj) hd ht
           obtain ⟨e, he, hb, rfl⟩ := after1_iff.1 this
           have := waitsOk_iff.1 (hsim.closed k o1 g1 hkL2) e he hb
           rw [hjL] at this
           cases this
          rw [f1, f2]
          rcases g6 with ⟨y1, y2⟩ | y
          · exact .inl ⟨y1, fun w hw => y2 w ((hheld k m1 hin).2 w gd hw)⟩
          · exact .inr y
       unfold wpOp
       simp only [hoj]
       rcases wantK_sound hf hS with ⟨hw, hS⟩ | ⟨hw, hS⟩
       · have hw' : Region.wanted o (yielded ops a') = true := by rw [e2]; exact hw
         simp only [hw', if_true]
         refine .inl (wp_carry e1 (fun act w h => h.1) ?_ (xop_sound hT hf hst hS _))
         rintro v w' ⟨hd, tm', bs', cs', D', h1, h2, h3⟩
         obtain ⟨h3, h4⟩ := heldK_sound (w0 := w0) (R := R) (av := av) h3
         obtain ⟨tm2, h5, h6⟩ := guardSplit_sound h1 h3
         have := key v w' tm2 bs' cs' D' h5 h2 h4 h6
         rwa [← act_eta (put_defers _ _ _)] at this
       · have hw' : Region.wanted o (yielded ops a') = false := by rw [e2]; exact hw
         simp only [hw', Bool.false_eq_true, if_false]
         obtain ⟨tm', h1, h2⟩ := hf.put o.dst (s := .v undef) (y := undef) rfl hS
         have := key undef w tm' bs cs D h1 hst (fun _ _ _ => ⟨fun h => h, fun w _ h => h⟩) h2
         rwa [← act_eta (put_defers _ _ _)] at this

def falsesK : List Oper → (List Bool → Prop) → Prop
 | [], K => K []
 | _ :: r, K => falsesK r fun l => K (false :: l)

theorem falsesK_iff : ∀ {l : List Oper} {K : List Bool → Prop}, falsesK l K → K (List.replicate l.length false)
 | [], _, h => h
 | _ :: r, K, h => falsesK_iff (l := r) h

/-- A statement whose order is open. -/
theorem XStop.drawG (hT : TabOk P tab) (fl : Bool) (hm : P.follows .mixedOrders = true) {id : Nat} {l : List Oper} {tm : List SV} {bs : List (Nat × Nat)} {cs : List (List Value)} {D : Fx} {K : Exit → KT} (hns : noSel l = true)
 (hbk : allBack l 0 = true) (h : falsesK l fun L => xany P tab w0 R av fl l 1000 L [] tm bs cs D (K .normal)) : XStop P w0 R av (.region id ⟨l⟩ true) tm bs cs D K := by
 have h := falsesK_iff h
 refine XStop_iff.2 fun a w hf hst => wp_region_any hm ?_
 have hst' : St w0 R av { w with drawn := w.drawn + 1 } bs cs D := hst.keptD ⟨rfl, rfl, rfl, Nat.le_refl _, fun b o ho => ⟨o, ho, .refl _ _⟩⟩
 have hnB : ∀ i, nthB (List.replicate l.length false) i = false := fun i => by
  rw [nthB_eq, List.getElem?_replicate]
  split <;> rfl
 refine xany_sound hT (ops := ⟨l⟩) hns hbk (K := K .normal) (fun act w h => h) _ 1000 _ (List.replicate l.length false) _ [] tm bs cs D a a _ (Nat.le_refl _) ?_ h hf hst' ?_
 · unfold left
   simp
 · refine ⟨by simp, by simp, fun i hi => ?_, fun i o _ hi => ?_, fun i o _ hi => ?_, rfl, fun _ _ => rfl, fun i hi => ?_⟩
   · simp [Array.getD] at hi
   · rw [hnB] at hi; cases hi
   · simp [Array.getD] at hi
   · rw [hnB] at hi; cases hi

theorem XStop.draw (hT : TabOk P tab) (hm : P.follows .mixedOrders = true) {id : Nat} {l : List Oper} {tm : List SV} {bs : List (Nat × Nat)} {cs : List (List Value)} {D : Fx} {K : Exit → KT} (hns : noSel l = true)
 (hbk : allBack l 0 = true) (h : falsesK l fun L => xany P tab w0 R av false l 1000 L [] tm bs cs D (K .normal)) : XStop P w0 R av (.region id ⟨l⟩ true) tm bs cs D K := XStop.drawG hT false hm hns hbk h

/-- The same; what is read early may hang on the facts alone. -/
theorem XStop.drawF (hT : TabOk P tab) (hm : P.follows .mixedOrders = true) {id : Nat} {l : List Oper} {tm : List SV} {bs : List (Nat × Nat)} {cs : List (List Value)} {D : Fx} {K : Exit → KT} (hns : noSel l = true)
 (hbk : allBack l 0 = true) (h : falsesK l fun L => xany P tab w0 R av true l 1000 L [] tm bs cs D (K .normal)) : XStop P w0 R av (.region id ⟨l⟩ true) tm bs cs D K := XStop.drawG hT true hm hns hbk h

theorem BLe.same : ∀ {bs : List (Nat × Nat)} {cs : List (List Value)}, bs.length = cs.length → BLe bs cs bs cs
 | [], [], _ => trivial
 | _ :: _, _ :: _, h => ⟨⟨rfl, rfl⟩, BLe.same (by simpa using h)⟩
 | [], _ :: _, h => by simp at h
 | _ :: _, [], h => by simp at h

theorem Ent.left (F F' : Fx) : Ent (F.and F') F := .of_le ⟨List.sublist_append_left _ _, fun _ h => h.1⟩

/-- Behind a call that leaves the boxes alone. -/
theorem XHeld.call {bs bs' : List (Nat × Nat)} {cs cs' : List (List Value)} {F F' : Fx} {K : Prop} (hl : 0 = 0) (h : K) : XHeld bs cs F bs' cs' (F.and F') K := ⟨Ent.left _ _, h⟩

theorem XHeld.factCall {bs bs' : List (Nat × Nat)} {cs cs' : List (List Value)} {F F' : Fx} {K : Prop} (hl : 0 = 0) (h : K) : XHeld bs cs ⟨F.D, []⟩ bs' cs' ⟨(F.and F').D, []⟩ K := ⟨.of_le ⟨List.Sublist.refl _, fun _ h => h.1⟩, h⟩

theorem XHeld.same {bs bs' : List (Nat × Nat)} {cs cs' : List (List Value)} {F : Fx} {K : Prop} (hl : 0 = 0) (h : K) : XHeld bs cs F bs' cs' F K := ⟨Ent.refl _, h⟩

/-- Behind an operation that makes a row. -/
theorem XHeld.row {bs bs' : List (Nat × Nat)} {cs cs' : List (List Value)} {F : Fx} {rs : List (Nat × Row)} {K : Prop} (hl : 0 = 0) (h : K) : XHeld bs cs F bs' cs' ⟨F.D, F.rs ++ rs⟩ K :=
 ⟨.of_le ⟨List.sublist_append_left _ _, fun _ h => h⟩, h⟩

end
end Go.Sx
namespace Go.Sx
set_option linter.unusedVariables false

def byteV (x : UInt8) : Value := .int .u8 (x.toNat : Int)

/-- From the address on lie the cells L (nil: none). -/
def RowAt (w : World) (a : Option Addr) (L : List Value) : Prop :=
 match a with
 | none => L = []
 | some ad => L = [] ∨ (ad.spot = none ∧ ∃ arr e fz, w.heap[ad.block]? = some (.cells arr e fz) ∧ ∀ j, j < L.length → arr[ad.off + j]? = L[j]?)

/-- Where there is a cell, the block is there. -/
theorem RowAt.there {w : World} {ad : Addr} {L : List Value} (h : RowAt w (some ad) L) (hn : L ≠ []) : ad.spot = none ∧ ∃ arr e fz, w.heap[ad.block]? = some (.cells arr e fz) ∧ ∀ j, j < L.length → arr[ad.off + j]? = L[j]? :=
 h.resolve_left hn

theorem RowAt.none' {w : World} (a : Option Addr) : RowAt w a [] := by
 cases a with
 | none => rfl
 | some ad => exact .inl rfl

theorem ne_of_lt {α : Type} {L : List α} {j : Nat} (h : j < L.length) : L ≠ [] := by
 rintro rfl
 simp at h

theorem RowAt.nilA {w : World} : RowAt w none [] := rfl

theorem RowAt.nil_of {w : World} {L : List Value} (h : RowAt w none L) : L = [] := h

theorem RowAt.cell {w : World} {ad : Addr} {L : List Value} (h : RowAt w (some ad) L) {j : Nat} (hj : j < L.length) : w.cell? (ad.add j) = L[j]? := by
 obtain ⟨hs, arr, e, fz, h1, h2⟩ := h.there (ne_of_lt hj)
 obtain ⟨b, o, s⟩ := ad
 simp at hs
 subst hs
 rw [Addr.add_none]
 simp [World.cell?, h1, h2 j hj]

theorem Addr.addAdd {ad : Addr} (h : ad.spot = none) (m n : Nat) : (ad.add m).add n = ad.add (m + n) := by
 obtain ⟨b, o, s⟩ := ad
 simp at h
 subst h
 simp [Addr.add_none, Nat.add_assoc]

theorem RowAt.drop {w : World} {ad : Addr} {L : List Value} (h : RowAt w (some ad) L) (k : Nat) : RowAt w (some (ad.add k)) (L.drop k) := by
 rcases h with rfl | ⟨hs, arr, e, fz, h1, h2⟩
 · exact .inl (by simp)
 obtain ⟨b, o, s⟩ := ad
 simp at hs
 subst hs
 rw [Addr.add_none]
 refine .inr ⟨rfl, arr, e, fz, h1, fun j hj => ?_⟩
 simp at hj
 rw [Nat.add_assoc, h2 _ (by omega), List.getElem?_drop]

theorem RowAt.take {w : World} {a : Option Addr} {L : List Value} (h : RowAt w a L) (k : Nat) : RowAt w a (L.take k) := by
 cases a with
 | none => rw [RowAt.nil_of h]; simp [RowAt]
 | some ad =>
  rcases h with rfl | ⟨hs, arr, e, fz, h1, h2⟩
  · exact .inl (by simp)
  refine .inr ⟨hs, arr, e, fz, h1, fun j hj => ?_⟩
  simp at hj
  rw [h2 _ (by omega), List.getElem?_take, if_pos (by omega)]

theorem RowAt.nil {w : World} {a : Option Addr} {L : List Value} (h : RowAt w a L) : RowAt w a [] := by simpa using h.take 0

theorem RowAt.of_row {w : World} {b : Nat} {C : List Value} (h : RowIs w b C) : RowAt w (some ⟨b, 0, none⟩) C := by
 obtain ⟨e, h⟩ := h
 exact .inr ⟨rfl, C.toArray, e, _, h, fun j hj => by simp⟩

theorem RowAt.of_range {w : World} {b o : Nat} {C : List Value} (h : Range w b o C) : RowAt w (some ⟨b, o, none⟩) C := by
 obtain ⟨arr, e, h1, h2⟩ := h
 exact .inr ⟨rfl, arr, e, _, h1, h2⟩

theorem RowAt.holds {av : Nat → Prop} {w : World} {ad : Addr} {L : List Value} (h : RowAt w (some ad) L) (ha : ¬ av ad.block) : Holds av w (fun w => RowAt w (some ad) L) := by
 rcases h with rfl | ⟨hs, arr, e, fz, h1, h2⟩
 · exact ⟨fun _ => False, fun _ h => h.elim, fun _ _ => .inl rfl⟩
 exact Holds.block ad.block (lt_of_some h1) ha fun w' hw => .inr ⟨hs, arr, e, fz, by rw [hw, h1], h2⟩

section
variable {P : Program} {tab : Tab} {w0 : World} {R : Nat → Nat → Prop} {av : Nat → Prop} {bs : List (Nat × Nat)} {cs : List (List Value)} {F : Fx}

/-- What a walk sees at an address, whatever the world. -/
def Sees (w0 : World) (R : Nat → Nat → Prop) (av : Nat → Prop) (bs : List (Nat × Nat)) (cs : List (List Value)) (F : Fx) (a : Option Addr) (L : List Value) : Prop := ∀ w, St w0 R av w bs cs F → RowAt w a L

theorem Sees.fact {a : Option Addr} {L : List Value} (h : ∀ w, F.D w → RowAt w a L) : Sees w0 R av bs cs F a L := fun w hst => h w hst.now

theorem Sees.row {b : Nat} {C : List Value} (h : (b, Row.c C) ∈ F.rs) : Sees w0 R av bs cs F (some ⟨b, 0, none⟩) C := fun w hst => .of_row (hst.rows _ h).1

theorem Sees.take {a : Option Addr} {L : List Value} (h : Sees w0 R av bs cs F a L) (k : Nat) : Sees w0 R av bs cs F a (L.take k) := fun w hst => (h w hst).take k

theorem Sees.eq {a : Option Addr} {L L' : List Value} (h : Sees w0 R av bs cs F a L) (e : L = L') : Sees w0 R av bs cs F a L' := e ▸ h

theorem XVal.of_read {m : Sem Value} {K : KV} (h : XRead P w0 R av m bs cs F fun v => K v bs cs F) : XVal P w0 R av m bs cs F K := by
 obtain ⟨v, h1, h2⟩ := (XRead_iff _ _ _ _).1 h
 exact XVal_iff.2 fun w hst => ⟨v, w, [], cs, F, h1 w hst, by rw [List.append_nil]; exact hst, by rw [List.append_nil]; exact h2⟩

theorem slice_of {d : TypeDesc} {e : TypeId} (h : mkTK d = .slice e) : d = .slice e := by
 cases d <;> simp [mkTK] at h
 rw [h]

/-- s[i]'s address. -/
theorem XRead.index (hT : TabOk P tab) {t : TypeId} {ti te : TI} {e : TypeId} (ht : look tab t = some ti) (hk : ti.k = .slice e) (he : look tab e = some te) {a : Option Addr} {n c : Nat} {k : IntKind} {i : Int} {K : Value → Prop}
 (h0 : 0 ≤ i) (h1 : i < n) (ha : a = none → n = 0) (h : ∀ ad, a = some ad → K (.pointer (some (ad.add (i.toNat * te.size))))) :
 XRead P w0 R av (Instr.indexAt t (.slice a n c) (.int k i)) bs cs F K := by
 cases a with
 | none => have := ha rfl; omega
 | some ad =>
  refine (XRead_iff _ _ _ _).2 ⟨_, fun w _ => ?_, h ad rfl⟩
  obtain ⟨i1, d1, z1, p1, p2, p3, p4, p5, p6, p7, p8⟩ := mkTI_parts (hT _ _ ht)
  obtain ⟨i2, d2, z2, q1, q2, q3, q4, q5, q6, q7, q8⟩ := mkTI_parts (hT _ _ he)
  rw [p4] at hk
  obtain rfl := slice_of hk
  unfold Instr.indexAt
  rw [run_bind_ok (m := asIntOf (.int k i)) (a := (k, i)) (w' := w) rfl]
  simp only
  rw [run_bind_ok (run_underlying' p2 w)]
  simp only
  rw [run_bind_ok (run_pure P _ w), run_bind_ok (run_underlying' p2 w)]
  simp only
  rw [if_pos ⟨h0, h1⟩, run_bind_ok (run_sizeOf q1 w), ← q5]
  rfl

/-- A cell that is read through a pointer. -/
theorem XRead.load (hT : TabOk P tab) {t : TypeId} {ti : TI} (ht : look tab t = some ti) (hk : ti.k.agg = false) {p ad : Addr} {k : Nat} {L : List Value} {v : Value} {K : Value → Prop}
 (hs : Sees w0 R av bs cs F (some ad) L) (hp : p = ad.add k) (hv : L[k]? = some v) (h : K v) : XRead P w0 R av (Instr.loadAt t (.pointer (some p))) bs cs F K := by
 subst hp
 refine (XRead_iff _ _ _ _).2 ⟨v, fun w hst => ?_, h⟩
 show (loadVar t (ad.add k)).run P w = _
 have hlt : k < L.length := (List.getElem?_eq_some_iff.1 hv).1
 exact run_loadVar_one (hT _ _ ht) hk (by rw [(hs w hst).cell hlt, hv])

/-- A struct that is read through a pointer. -/
theorem XRead.loads (hT : TabOk P tab) {t : TypeId} {ti : TI} (ht : look tab t = some ti) (hk : ti.k.agg = true) {p ad : Addr} {k : Nat} {L m : List Value} {K : Value → Prop}
 (hs : Sees w0 R av bs cs F (some ad) L) (hp : p = ad.add k) (hm : (L.drop k).take ti.size = m) (hl : m.length = ti.size) (h : K (.agg ⟨m⟩)) : XRead P w0 R av (Instr.loadAt t (.pointer (some p))) bs cs F K := by
 subst hp
 refine (XRead_iff _ _ _ _).2 ⟨_, fun w hst => ?_, h⟩
 show (loadVar t (ad.add k)).run P w = _
 have hr := (hs w hst)
 rcases hr with he | hr
 · subst he
   simp at hm
   subst hm
   obtain ⟨i1, d1, z1, p1, p2, p3, p4, p5, p6, p7, p8⟩ := mkTI_parts (hT _ _ ht)
   unfold loadVar
   rw [run_bind_ok (run_isAgg p2 w), ← p4, hk]
   simp only [if_true]
   rw [run_bind_ok (run_sizeOf p1 w), ← p5, ← hl]
   rfl
 have hsp : ad.spot = none := hr.1
 have hr : RowAt w (some ad) L := .inr hr
 obtain ⟨b, o, s⟩ := ad
 simp at hsp
 subst hsp
 rw [Addr.add_none]
 refine run_loadVar_agg (hT _ _ ht) hk m hl fun j hj => ?_
 have := hr.cell (j := k + j) (by rw [← hm] at hj; simp at hj; omega)
 rw [Addr.add_none, ← Nat.add_assoc] at this
 rw [this, ← hm, List.getElem?_take, if_pos (by omega), List.getElem?_drop]

/-! ### cutting a slice -/

/-- The address of s[l:..:m]. -/
def cutA (a : Option Addr) (l m size : Nat) : Option Addr := if m = l then a else a.map (·.add (l * size))

theorem RowAt.cut {w : World} {a : Option Addr} {L : List Value} (h : RowAt w a L) {l hi m size : Nat} (hm : l ≤ hi ∧ hi ≤ m) : RowAt w (cutA a l m size) ((L.drop (l * size)).take ((hi - l) * size)) := by
 unfold cutA
 split
 · have : hi - l = 0 := by omega
   rw [this]
   simpa using h.nil
 · cases a with
   | none => rw [RowAt.nil_of h]; simp [RowAt]
   | some ad => exact (h.drop _).take _

theorem run_bound {P : Program} {w : World} {k : IntKind} {i : Int} {y : Nat} {code : BoundsCode} (h0 : 0 ≤ i) (h1 : i ≤ y) : (Instr.sliceBound (.int k i) y code).run P w = .ok i.toNat w := by
 unfold Instr.sliceBound
 rw [run_bind_ok (m := asIntOf (.int k i)) (a := (k, i)) (w' := w) rfl]
 simp only
 rw [if_pos ⟨h0, h1⟩]
 rfl

/-- s[lo:hi] of a slice. -/
theorem XRead.slice (hT : TabOk P tab) {t : TypeId} {ti te : TI} {e : TypeId} (ht : look tab t = some ti) (hk : ti.k = .slice e) (he : look tab e = some te) {a : Option Addr} {n c : Nat} {k1 k2 k3 : IntKind}
 {lo hi mx : Option Int} {K : Value → Prop} (l h m : Nat) (hl : lo.getD 0 = l) (hh : hi.getD n = h) (hm : mx.getD c = m) (h1 : l ≤ h) (h2 : h ≤ m) (h3 : m ≤ c) (hx : mx.isSome = true → hi.isSome = true)
 (hK : K (.slice (cutA a l m te.size) (h - l) (m - l))) :
 XRead P w0 R av (Instr.sliceAt t (.slice a n c) (lo.map (.int k1)) (hi.map (.int k2)) (mx.map (.int k3))) bs cs F K := by
 refine (XRead_iff _ _ _ _).2 ⟨_, fun w _ => ?_, hK⟩
 obtain ⟨i1, d1, z1, p1, p2, p3, p4, p5, p6, p7, p8⟩ := mkTI_parts (hT _ _ ht)
 obtain ⟨i2, d2, z2, q1, q2, q3, q4, q5, q6, q7, q8⟩ := mkTI_parts (hT _ _ he)
 rw [p4] at hk
 obtain rfl := slice_of hk
 unfold Instr.sliceAt
 rw [run_bind_ok (run_underlying' p2 w)]
 simp only
 unfold Instr.slice
 rw [run_bind_ok (run_underlying' p2 w)]
 simp only
 have hb : (Instr.sliceBounds true n c (lo.map (.int k1)) (hi.map (.int k2)) (mx.map (.int k3))).run P w = .ok (l, h, m) w := by
  unfold Instr.sliceBounds
  cases mx with
  | none =>
   obtain rfl : m = c := by have : (c : Int) = m := hm; omega
   cases hi with
   | none =>
    obtain rfl : h = n := by have : (n : Int) = h := hh; omega
    simp only [Option.map_none]
    rw [run_bind_ok (run_pure P _ w), run_bind_ok (run_pure P _ w)]
    cases lo with
    | none =>
     obtain rfl : l = 0 := by have : (0 : Int) = l := hl; omega
     rfl
    | some i =>
     obtain rfl : i = (l : Int) := hl
     simp only [Option.map_some]
     rw [run_bind_ok (run_bound (by omega) (by omega))]
     rfl
   | some j =>
    obtain rfl : j = (h : Int) := hh
    simp only [Option.map_none, Option.map_some]
    rw [run_bind_ok (run_pure P _ w), run_bind_ok (run_bound (by omega) (by omega))]
    cases lo with
    | none =>
     obtain rfl : l = 0 := by have : (0 : Int) = l := hl; omega
     rfl
    | some i =>
     obtain rfl : i = (l : Int) := hl
     simp only [Option.map_some]
     rw [run_bind_ok (run_bound (by omega) (by simp; omega))]
     rfl
  | some mm =>
   obtain rfl : mm = (m : Int) := hm
   cases hi with
   | none => simp at hx
   | some j =>
    obtain rfl : j = (h : Int) := hh
    simp only [Option.map_some]
    rw [run_bind_ok (run_bound (by omega) (by omega)), run_bind_ok (run_bound (by omega) (by simp; omega))]
    cases lo with
    | none =>
     obtain rfl : l = 0 := by have : (0 : Int) = l := hl; omega
     rfl
    | some i =>
     obtain rfl : i = (l : Int) := hl
     simp only [Option.map_some]
     rw [run_bind_ok (run_bound (by omega) (by simp; omega))]
     rfl
 rw [run_bind_ok hb]
 simp only
 rw [run_bind_ok (run_sizeOf q1 w), ← q5]
 rfl

end
end Go.Sx
namespace Go.Sx
set_option linter.unusedVariables false

/-! ### literals -/

theorem fill_all (size : Nat) : ∀ (vs : List Value) (k : Nat) (pre z : List Value), pre.length = k * size → z.length = vs.length * size → (∀ v ∈ vs, v.cells.toList.length = size) →
 Instr.fill (fun i => some (i * size, size)) ⟨pre ++ z⟩ ((vs.zipIdx k).map fun x => (x.2, x.1)) = some ⟨pre ++ vs.flatMap (·.cells.toList)⟩
 | [], k, pre, z, h1, h2, _ => by
  have : z = [] := List.eq_nil_of_length_eq_zero (by simpa using h2)
  subst this
  simp [Instr.fill]
 | v :: vs, k, pre, z, h1, h2, h3 => by
  have hv := h3 v (List.mem_cons_self ..)
  have hz : size ≤ z.length := by rw [h2, List.length_cons, Nat.succ_mul]; omega
  simp only [List.zipIdx_cons, List.map_cons]
  rw [fill_step _ _ _ _ _ (k * size) size rfl hv (by rw [hv, List.length_append, h1]; omega)]
  have e1 : (pre ++ z).take (k * size) = pre := by rw [← h1, List.take_left]
  have e2 : (pre ++ z).drop (k * size + v.cells.toList.length) = z.drop size := by
   rw [hv, ← h1, List.drop_append, List.drop_of_length_le (by omega)]
   simp
  rw [e1, e2, fill_all size vs (k + 1) (pre ++ v.cells.toList) (z.drop size) (by rw [List.length_append, h1, hv, Nat.succ_mul])
   (by rw [List.length_drop, h2, List.length_cons, Nat.succ_mul]; omega) (fun u hu => h3 u (List.mem_cons_of_mem _ hu))]
  simp

theorem St.newRow {w0 : World} {R : Nat → Nat → Prop} {av : Nat → Prop} {w : World} {bs : List (Nat × Nat)} {cs : List (List Value)} {F : Fx} (h : St w0 R av w bs cs F) (c : List Value) (e : TypeId) :
 St w0 R av { w with heap := w.heap.push (.cells c.toArray e) } bs cs ⟨F.D, F.rs ++ [(w.heap.size, Row.c c)]⟩ := by
 have hk : Keep w { w with heap := w.heap.push (.cells c.toArray e) } :=
  keep_of_heap rfl rfl rfl (by simp) (fun b hb => by simp [Array.getElem?_push, Nat.ne_of_lt hb])
 refine (h.kept (F' := ⟨fun _ => True, [(w.heap.size, Row.c c)]⟩) hk ⟨fun r hr => ?_, by simp, .pure trivial⟩).ent (Ent.imp fun w h => h.1)
 simp at hr
 subst hr
 exact ⟨⟨e, by simp⟩, Nat.le_refl _⟩

/-- A row that the function owns (or nil): n elements of sz cells, L; the block's cells are C. -/
structure Owg (sz n : Nat) (a : Option Addr) (cap : Nat) (C L : List Value) : Prop where
 len : L.length = n * sz
 fit : n ≤ cap
 alt : (a = none ∧ C = [] ∧ cap = 0) ∨ ∃ b, a = some ⟨b, 0, none⟩ ∧ C.length = cap * sz ∧ C.take (n * sz) = L

def orow (a : Option Addr) (C : List Value) : List (Nat × Row) := match a with
 | none => []
 | some ad => [(ad.block, C)]

theorem Owg.nil (sz : Nat) : Owg sz 0 none 0 [] [] := ⟨by simp, Nat.le_refl _, .inl ⟨rfl, rfl, rfl⟩⟩

theorem Owg.full {sz n : Nat} {b : Nat} {L : List Value} (h : L.length = n * sz) : Owg sz n (some ⟨b, 0, none⟩) n L L :=
 ⟨h, Nat.le_refl _, .inr ⟨b, rfl, h, by rw [← h]; simp⟩⟩

theorem Owg.none_nil {sz n : Nat} {a : Option Addr} {cap : Nat} {C L : List Value} (h : Owg sz n a cap C L) (ha : a = none) : n = 0 := by
 rcases h.alt with ⟨_, _, h1⟩ | ⟨b, h1, _⟩
 · have := h.fit; omega
 · rw [ha] at h1; cases h1

section
variable {P : Program} {tab : Tab} {w0 : World} {R : Nat → Nat → Prop} {av : Nat → Prop} {bs : List (Nat × Nat)} {cs : List (List Value)} {F : Fx}

theorem Owg.at {w : World} {sz n : Nat} {a : Option Addr} {cap : Nat} {C L : List Value} (h : Owg sz n a cap C L) {r1 r2 : List (Nat × Row)} {D : World → Prop}
 (hst : St w0 R av w bs cs ⟨D, r1 ++ orow a C ++ r2⟩) : RowAt w a L := by
 rcases h.alt with ⟨rfl, rfl, h3⟩ | ⟨b, rfl, h2, h3⟩
 · have : n = 0 := by have := h.fit; omega
   have hl := h.len
   rw [this] at hl
   exact List.eq_nil_of_length_eq_zero (by simpa using hl)
 · have hm : (b, Row.c C) ∈ r1 ++ orow (some ⟨b, 0, none⟩) C ++ r2 := by simp [orow]
   rw [← h3]
   exact (RowAt.of_row (hst.rows _ hm).1).take _

/-- An owned row is looked at. -/
theorem Owg.sees {sz n : Nat} {a : Option Addr} {cap : Nat} {C L : List Value} (h : Owg sz n a cap C L) {r1 r2 : List (Nat × Row)} {D : World → Prop} :
 Sees w0 R av bs cs ⟨D, r1 ++ orow a C ++ r2⟩ a L := fun w hst => h.at hst

/-- An owned row is given up for a fact. -/
theorem Owg.share {sz n : Nat} {a : Option Addr} {cap : Nat} {C L : List Value} (h : Owg sz n a cap C L) {r1 r2 : List (Nat × Row)} {D : World → Prop} :
 Ent ⟨D, r1 ++ orow a C ++ r2⟩ ⟨fun w => D w ∧ RowAt w a L, r1 ++ r2⟩ := by
 intro w0 R av w bs cs hst
 have hat := h.at hst
 have hle : Fx.Le ⟨D, r1 ++ orow a C ++ r2⟩ ⟨D, r1 ++ r2⟩ := ⟨by
  show (r1 ++ r2).Sublist (r1 ++ orow a C ++ r2)
  exact List.Sublist.append (List.sublist_append_left _ _) (List.Sublist.refl _), fun _ h => h⟩
 have h2 := hst.imp hle
 refine ⟨h2.keep, h2.box, h2.nd, h2.own, h2.avlt, h2.rows, Holds.and h2.data ?_⟩
 rcases h.alt with ⟨rfl, rfl, h3⟩ | ⟨b, rfl, h2', h3⟩
 · exact Holds.pure (p := L = []) hat
 · refine hat.holds ?_
   have hnd := hst.nd
   simp only [orow, List.map_append, List.map_cons, List.map_nil] at hnd
   have hm : (b, Row.c C) ∈ r1 ++ orow (some ⟨b, 0, none⟩) C ++ r2 := by simp [orow]
   have hb0 := (hst.rows _ hm).2
   rintro (hb | ⟨x, hx, he⟩ | ⟨r, hr, he⟩)
   · rcases hb0 with hb0 | hb0
     · have h7 := hst.avlt b hb
       simp at hb0
       omega
     · exact hb0.1 hb
   · rw [List.nodup_append] at hnd
     exact hnd.2.2 x.1 (List.mem_map.2 ⟨x, hx, rfl⟩) b (by simp) he
   · rw [List.nodup_append] at hnd
     have h8 := hnd.2.1
     rw [List.append_assoc, List.nodup_append] at h8
     rcases List.mem_append.1 hr with hr | hr
     · exact h8.2.2 r.1 (List.mem_map.2 ⟨r, hr, rfl⟩) b (by simp) he
     · have := h8.2.1
       simp only [List.singleton_append, List.nodup_cons] at this
       exact this.1 (List.mem_map.2 ⟨r, hr, he⟩)

end
end Go.Sx
namespace Go.Sx
set_option linter.unusedVariables false

section
variable {P : Program} {tab : Tab} {w0 : World} {R : Nat → Nat → Prop} {av : Nat → Prop} {bs : List (Nat × Nat)} {cs : List (List Value)} {F : Fx}

theorem run_newRow (w : World) (e : TypeId) (c : List Value) : (newRow e ⟨c⟩).run P w = .ok ⟨w.heap.size, 0, none⟩ { w with heap := w.heap.push (.cells c.toArray e) } := rfl

/-- []T{..}, or the row of one that append takes: a row of the function's own. -/
theorem XVal.build (hT : TabOk P tab) {t : TypeId} {ti te : TI} {e : TypeId} (ht : look tab t = some ti) (hk : ti.k = .slice e) (he : look tab e = some te) {ps : List (Nat × Value)} {n : Nat} {K : KV} (vs : List Value)
 (hps : ps = vs.zipIdx.map fun x => (x.2, x.1)) (hn : n = vs.length) (hsz : ∀ v ∈ vs, v.cells.toList.length = te.size) (hroom : n * te.size ≤ 2 ^ 24)
 (h : ∀ b, K (.slice (some ⟨b, 0, none⟩) n n) bs cs ⟨F.D, F.rs ++ [(b, Row.c (vs.flatMap (·.cells.toList)))]⟩) : XVal P w0 R av (Instr.buildSlice t n ⟨ps⟩) bs cs F K := by
 subst hps hn
 refine XVal_iff.2 fun w hst => ?_
 obtain ⟨i1, d1, z1, p1, p2, p3, p4, p5, p6, p7, p8⟩ := mkTI_parts (hT _ _ ht)
 obtain ⟨i2, d2, z2, q1, q2, q3, q4, q5, q6, q7, q8⟩ := mkTI_parts (hT _ _ he)
 rw [p4] at hk
 obtain rfl := slice_of hk
 refine ⟨_, _, [], cs, _, ?_, by rw [List.append_nil]; exact hst.newRow (vs.flatMap (·.cells.toList)) e, by rw [List.append_nil]; exact h _⟩
 unfold Instr.buildSlice
 rw [run_bind_ok (run_underlying' p2 w)]
 simp only
 rw [run_bind_ok (run_sizeOf q1 w), ← q5, if_neg (by omega)]
 have key : ∀ z : Array Value, (match Instr.fill (fun i => some (i * te.size, te.size)) (Array.map (fun x => z[x % z.size]!) (Array.range (vs.length * te.size))) (List.map (fun x => (x.snd, x.fst)) vs.zipIdx) with
  | some cells => do
   let r ← newRow e cells
   pure (Value.slice (some r) vs.length vs.length)
  | _ => stuck "buildSlice: a part of the wrong size" : Sem Value).run P w =
  .ok (.slice (some ⟨w.heap.size, 0, none⟩) vs.length vs.length) { w with heap := w.heap.push (.cells (vs.flatMap (·.cells.toList)).toArray e) } := by
  intro z
  have hf := fill_all te.size vs 0 [] ((List.range (vs.length * te.size)).map (z[· % z.size]!)) (by simp) (by simp) hsz
  simp only [List.nil_append] at hf
  have hr : (Array.range (vs.length * te.size)).map (z[· % z.size]!) = ⟨(List.range (vs.length * te.size)).map (z[· % z.size]!)⟩ := by
   apply Array.toList_inj.1
   simp
  rw [hr]
  simp only [hf]
  rw [run_bind_ok (run_newRow w e _)]
  rfl
 split
 · rw [run_bind_ok (run_pure P _ w)]
   exact key _
 · rw [run_bind_ok (run_zero q1 q3 w), run_bind_ok (run_pure P _ w)]
   exact key _

/-! ### append -/

theorem growBy_le (newLen : Nat) : ∀ (k c : Nat), c ≤ newLen + (newLen + 768) / 4 → Builtin.growBy newLen k c ≤ newLen + (newLen + 768) / 4
 | 0, c, h => h
 | k + 1, c, h => by
  unfold Builtin.growBy
  split
  · exact h
  · exact growBy_le newLen k _ (by omega)

theorem nextslicecap_le {need cap : Nat} (h : cap < need) : Builtin.nextslicecap need cap ≤ 2 * need + 1000 := by
 unfold Builtin.nextslicecap
 split
 · omega
 · split
   · omega
   · have := growBy_le need 4 cap (by omega)
     omega

theorem run_firstCells {w : World} {a : Option Addr} {n c m sz : Nat} {L : List Value} (h : RowAt w a L) (hL : L.length = m * sz) : (Builtin.firstCells sz m (.slice a n c)).run P w = .ok ⟨L⟩ w := by
 cases a with
 | none => rw [RowAt.nil_of h]; rfl
 | some ad =>
  show (loadCells ad (m * sz)).run P w = _
  rw [← hL]
  rcases h with rfl | h
  · rfl
  have hsp : ad.spot = none := h.1
  have h : RowAt w (some ad) L := .inr h
  obtain ⟨b, o, s⟩ := ad
  simp at hsp
  subst hsp
  refine run_loadCells L fun j hj => ?_
  have := h.cell hj
  rwa [Addr.add_none] at this

theorem zeroCells_len (z : List Value) (n : Nat) : (Builtin.zeroCells ⟨z⟩ n).toList.length = n * z.length := by
 unfold Builtin.zeroCells
 simp

theorem run_append_fits {w : World} {t xt ty e xe : TypeId} {i2 : TypeInfo} (ht : P.underlying t = some (.slice e)) (hx : P.underlying xt = some (.slice xe)) (he : P.info? e = some i2) {a p : Option Addr} {n cap m cx : Nat}
 (hfit : n + m ≤ cap) {M : List Value} (hM : RowAt w p M) (hl : M.length = m * i2.size) {w' : World} (hs : ∀ ad, a = some ad → (storeCells (ad.add (n * i2.size)) M).run P w = .ok () w') (hn : a = none → w' = w) :
 (Builtin.append_ #[t, xt] ty #[.slice a n cap, .slice p m cx]).run P w = .ok (.slice a (n + m) cap) w' := by
 unfold Builtin.append_
 simp only [show (#[t, xt] : Array TypeId)[0]? = some t from rfl, show (#[t, xt] : Array TypeId)[1]? = some xt from rfl, show ∀ u v : Value, (#[u, v] : Array Value)[0]? = some u from fun _ _ => rfl,
  show ∀ u v : Value, (#[u, v] : Array Value)[1]? = some v from fun _ _ => rfl]
 rw [run_bind_ok (run_underlying' ht w)]
 simp only
 rw [run_bind_ok (run_sizeOf he w), run_bind_ok (run_underlying' hx w), run_bind_ok (run_pure P _ w)]
 simp only [Bool.false_eq_true, if_false, Bool.not_false, if_true]
 rw [run_bind_ok (m := Builtin.lenOf (.slice p m cx)) (a := m) (w' := w) rfl]
 rw [if_pos hfit]
 rw [run_bind_ok (run_firstCells hM hl)]
 cases a with
 | none => rw [hn rfl]; rfl
 | some ad =>
  simp only
  rw [run_bind_ok (hs ad rfl)]
  rfl

theorem run_askRoom (w : World) (n : Nat) : (askRoom n).run P w = .ok () w := by
 unfold askRoom
 split <;> rfl

theorem run_append_growsG {w : World} {t xt ty e xe : TypeId} {i2 : TypeInfo} {z : Value} (ht : P.underlying t = some (.slice e)) (hx : P.underlying xt = some (.slice xe)) (he : P.info? e = some i2) (hz : i2.zero = some z)
 {a p : Option Addr} {n cap m cx : Nat} (hfit : ¬ n + m ≤ cap) {L M : List Value} (hL : RowAt w a L) (hl : L.length = n * i2.size) (hM : RowAt w p M) (hm : M.length = m * i2.size) (hlen : n + m ≤ 4611686018427387904)
 (hroom : Builtin.nextslicecap (n + m) cap * i2.bytes ≤ 2 ^ 48) :
 ∃ newCap, n + m ≤ newCap ∧ (Builtin.append_ #[t, xt] ty #[.slice a n cap, .slice p m cx]).run P w =
  .ok (.slice (some ⟨w.heap.size, 0, none⟩) (n + m) newCap)
   { w with heap := w.heap.push (.cells (L ++ M ++ (Builtin.zeroCells z.cells (newCap - (n + m))).toList).toArray e), drawn := w.drawn + 1 } := by
 refine ⟨Question.cut (.appendCap (n + m) cap e) (w.tape w.drawn (.appendCap (n + m) cap e)), by simp [Question.cut], ?_⟩
 have hcap : ¬ Builtin.nextslicecap (n + m) cap * i2.bytes > 2 ^ 48 := by omega
 have hmax : ¬ ((n + m : Nat) : Int) > IntKind.i64.max := by
  have : IntKind.i64.max = 9223372036854775807 := by decide
  rw [this]
  omega
 unfold Builtin.append_
 simp only [show (#[t, xt] : Array TypeId)[0]? = some t from rfl, show (#[t, xt] : Array TypeId)[1]? = some xt from rfl, show ∀ u v : Value, (#[u, v] : Array Value)[0]? = some u from fun _ _ => rfl,
  show ∀ u v : Value, (#[u, v] : Array Value)[1]? = some v from fun _ _ => rfl]
 rw [run_bind_ok (run_underlying' ht w)]
 simp only
 rw [run_bind_ok (run_sizeOf he w), run_bind_ok (run_underlying' hx w), run_bind_ok (run_pure P _ w)]
 simp only [Bool.false_eq_true, if_false, Bool.not_false, if_true]
 rw [run_bind_ok (m := Builtin.lenOf (.slice p m cx)) (a := m) (w' := w) rfl]
 rw [if_neg hfit]
 rw [run_bind_ok (run_typeInfo he w), if_neg (fun h => hmax h.1)]
 rw [run_bind_ok (run_typeInfo he w), if_neg hcap]
 rw [run_bind_ok (m := choose _) (w' := { w with drawn := w.drawn + 1 }) rfl]
 rw [run_bind_ok (run_typeInfo he _), run_bind_ok (run_askRoom _ _)]
 rw [run_bind_ok (run_firstCells (L := L) (by exact hL) hl), run_bind_ok (run_firstCells (L := M) (by exact hM) hm)]
 rw [run_bind_ok (run_zero he hz _)]
 have hc : (⟨L⟩ : Array Value) ++ ⟨M⟩ ++ Builtin.zeroCells z.cells (Question.cut (.appendCap (n + m) cap e) (w.tape w.drawn (.appendCap (n + m) cap e)) - (n + m)) =
  ⟨L ++ M ++ (Builtin.zeroCells z.cells (Question.cut (.appendCap (n + m) cap e) (w.tape w.drawn (.appendCap (n + m) cap e)) - (n + m))).toList⟩ := by
  apply Array.toList_inj.1
  simp
 rw [hc, run_bind_ok (run_newRow _ e _)]
 rfl

theorem run_append_grows {w : World} {t xt ty e xe : TypeId} {i2 : TypeInfo} {z : Value} (ht : P.underlying t = some (.slice e)) (hx : P.underlying xt = some (.slice xe)) (he : P.info? e = some i2) (hz : i2.zero = some z)
 {a p : Option Addr} {n cap m cx : Nat} (hfit : ¬ n + m ≤ cap) {L M : List Value} (hL : RowAt w a L) (hl : L.length = n * i2.size) (hM : RowAt w p M) (hm : M.length = m * i2.size) (hlen : n + m ≤ 4611686018427387904)
 (hroom : (2 * (n + m) + 1000) * i2.bytes ≤ 2 ^ 48) :
 ∃ newCap, n + m ≤ newCap ∧ (Builtin.append_ #[t, xt] ty #[.slice a n cap, .slice p m cx]).run P w =
  .ok (.slice (some ⟨w.heap.size, 0, none⟩) (n + m) newCap)
   { w with heap := w.heap.push (.cells (L ++ M ++ (Builtin.zeroCells z.cells (newCap - (n + m))).toList).toArray e), drawn := w.drawn + 1 } :=
 run_append_growsG ht hx he hz hfit hL hl hM hm hlen (by
  have := Nat.mul_le_mul_right i2.bytes (nextslicecap_le (need := n + m) (cap := cap) (by omega))
  omega)

end
end Go.Sx
namespace Go.Sx
set_option linter.unusedVariables false

section
variable {P : Program} {tab : Tab} {w0 : World} {R : Nat → Nat → Prop} {av : Nat → Prop} {bs : List (Nat × Nat)} {cs : List (List Value)}

theorem Ent.perm {D : World → Prop} {rs rs' : List (Nat × Row)} (h : rs.Perm rs') : Ent ⟨D, rs⟩ ⟨D, rs'⟩ := by
 intro w0 R av w bs cs hst
 have hm : ∀ r, r ∈ rs' → r ∈ rs := fun r hr => h.mem_iff.2 hr
 refine ⟨hst.keep, hst.box, ?_, hst.own, hst.avlt, fun r hr => hst.rows r (hm r hr), hst.data.less fun b hb => ?_⟩
 · exact (List.Perm.nodup_iff (List.Perm.append (List.Perm.refl _) (h.map _))).1 hst.nd
 · rcases hb with hb | hb | ⟨r, hr, rfl⟩
   · exact .inl hb
   · exact .inr (.inl hb)
   · exact .inr (.inr ⟨r, hm r hr, rfl⟩)

theorem St.drew {w : World} {F : Fx} (h : St w0 R av w bs cs F) : St w0 R av { w with drawn := w.drawn + 1 } bs cs F :=
 h.keptD ⟨rfl, rfl, rfl, Nat.le_refl _, fun b o ho => ⟨o, ho, .refl _ _⟩⟩

/-- A row of the function's own takes new cells. -/
theorem St.putRow {w w' : World} {D : World → Prop} {r1 r2 : List (Nat × Row)} {b : Nat} {C C' : Row} (h : St w0 R av w bs cs ⟨D, r1 ++ [(b, C)] ++ r2⟩) (h1 : w'.os = w.os) (h2 : w'.tape = w.tape)
 (h3 : w'.output = w.output) (h4 : w'.heap.size = w.heap.size) (h5 : ∀ k, k ≠ b → w'.heap[k]? = w.heap[k]?) (h6 : RowIs w' b C') (h7 : ∀ l, C = Row.c l → (∃ l', C' = Row.c l') ∧ ∃ e a a', w.heap[b]? = some (.cells a e (0, 0)) ∧ w'.heap[b]? = some (.cells a' e (0, 0)) ∧ a'.size = a.size)
 (h8 : ∀ es k, C = Row.m es k → ∃ es' k', C' = Row.m es' k' := by intro es k hh; first | (cases hh; done) | exact ⟨_, _, rfl⟩) : St w0 R av w' bs cs ⟨D, r1 ++ [(b, C')] ++ r2⟩ := by
 have hb0 := (h.rows (b, C) (by simp)).2
 have hnd := h.nd
 simp only [List.map_append, List.map_cons, List.map_nil] at hnd
 have hnb : ∀ x ∈ bs, x.1 ≠ b := fun x hx he => by
  rw [List.nodup_append] at hnd
  exact hnd.2.2 x.1 (List.mem_map.2 ⟨x, hx, rfl⟩) b (by simp) he
 have hnr : ∀ r, r ∈ r1 ∨ r ∈ r2 → r.1 ≠ b := fun r hr he => by
  rw [List.nodup_append] at hnd
  have h8 := hnd.2.1
  rw [List.append_assoc, List.nodup_append] at h8
  rcases hr with hr | hr
  · exact h8.2.2 r.1 (List.mem_map.2 ⟨r, hr, rfl⟩) b (by simp) he
  · have := h8.2.1
    simp only [List.singleton_append, List.nodup_cons] at this
    exact this.1 (List.mem_map.2 ⟨r, hr, he⟩)
 refine ⟨⟨h1.trans h.keep.os, h2.trans h.keep.tape, h3.trans h.keep.output, by rw [h4]; exact h.keep.size, fun k o ho => ?_⟩, h.box.of_same fun x hx => h5 _ (hnb x hx), ?_, h.own, h.avlt, fun r hr => ?_, ?_⟩
 · obtain ⟨o', ho', hs⟩ := h.keep.obj k o ho
   have hlt := lt_of_some ho
   by_cases hkb : k = b
   · subst hkb
     rcases hb0 with hb0 | ⟨_, hR, ⟨l, hC⟩ | ⟨es, kk, hC⟩⟩
     · simp at hb0
       omega
     · obtain ⟨_, e, a, a', g1, g2, g3⟩ := h7 l hC
       rw [g1] at ho'
       cases ho'
       exact ⟨_, g2, hs.trans (.inr (.inl ⟨a, a', e, _, rfl, rfl, g3, fun i hi => absurd (hR i) hi⟩))⟩
     · have hC : C = Row.m es kk := hC
       obtain ⟨es', k', hC'⟩ := h8 es kk hC
       have g1 := (h.rows (k, C) (by simp)).1
       dsimp only at g1
       rw [hC] at g1
       rw [hC'] at h6
       have g1 : w.heap[k]? = some (.map es kk) := g1
       have g2 : w'.heap[k]? = some (.map es' k') := h6
       rw [g1] at ho'
       cases ho'
       exact ⟨_, g2, hs.trans (.inr (.inr ⟨hR, es, kk, es', k', rfl, rfl⟩))⟩
   · exact ⟨o', by rw [h5 k hkb]; exact ho', hs⟩
 · simpa only [List.map_append, List.map_cons, List.map_nil] using hnd
 · simp only [List.mem_append, List.mem_singleton] at hr
   rcases hr with (hr | rfl) | hr
   · have := h.rows r (by simp [hr])
     exact ⟨this.1.of_same (h5 _ (hnr r (.inl hr))), this.2⟩
   · refine ⟨h6, hb0.imp id fun ⟨q1, q2, q3⟩ => ⟨q1, q2, q3.elim (fun ⟨l, q3⟩ => .inl (h7 l q3).1) fun ⟨es, k, q3⟩ => .inr (h8 es k q3)⟩⟩
   · have := h.rows r (by simp [hr])
     exact ⟨this.1.of_same (h5 _ (hnr r (.inr hr))), this.2⟩
 · refine h.data.move (by omega) (fun k hk hna => h5 k fun he => hna (.inr (.inr ⟨(b, C), by simp, he.symm⟩))) (fun k hk => .inl ?_)
   rcases hk with hk | hk | ⟨r, hr, rfl⟩
   · exact .inl hk
   · exact .inr (.inl hk)
   · simp only [List.mem_append, List.mem_singleton] at hr
     rcases hr with (hr | rfl) | hr
     · exact .inr (.inr ⟨r, by simp [hr], rfl⟩)
     · exact .inr (.inr ⟨(b, C), by simp, rfl⟩)
     · exact .inr (.inr ⟨r, by simp [hr], rfl⟩)

/-- append(s, x...), s a row of the function's own (or nil). -/
theorem XVal.appendG (hT : TabOk P tab) {t xt ty : TypeId} {ti tx te : TI} {e xe : TypeId} (ht : look tab t = some ti) (hk : ti.k = .slice e) (hx : look tab xt = some tx) (hxk : tx.k = .slice xe) (he : look tab e = some te)
 (hzl : te.zero.length = te.size) {D : World → Prop} {r1 r2 : List (Nat × Row)} {a p : Option Addr} {n cap m cx : Nat} {C L M : List Value} {K : KV} (own : Owg te.size n a cap C L)
 (hM : Sees w0 R av bs cs ⟨D, r1 ++ orow a C ++ r2⟩ p M) (hm : M.length = m * te.size) (hone : ∀ v ∈ M, oneCell v = true) (hlen : n + m ≤ 4611686018427387904) (hroom : cap < n + m → Builtin.nextslicecap (n + m) cap * te.bytes ≤ 2 ^ 48)
 (h : ∀ a' cap' C', Owg te.size (n + m) a' cap' C' (L ++ M) → K (.slice a' (n + m) cap') bs cs ⟨D, r1 ++ orow a' C' ++ r2⟩) :
 XVal P w0 R av (Builtin.append_ #[t, xt] ty #[.slice a n cap, .slice p m cx]) bs cs ⟨D, r1 ++ orow a C ++ r2⟩ K := by
 refine XVal_iff.2 fun w hst => ?_
 obtain ⟨i1, d1, z1, p1, p2, p3, p4, p5, p6, p7, p8⟩ := mkTI_parts (hT _ _ ht)
 obtain ⟨i3, d3, z3, o1, o2, o3, o4, o5, o6, o7, o8⟩ := mkTI_parts (hT _ _ hx)
 obtain ⟨i2, d2, z2, q1, q2, q3, q4, q5, q6, q7, q8⟩ := mkTI_parts (hT _ _ he)
 rw [p4] at hk
 rw [o4] at hxk
 obtain rfl := slice_of hk
 obtain rfl := slice_of hxk
 have hMw := hM w hst
 have hLw := own.at hst
 by_cases hfit : n + m ≤ cap
 · rcases own.alt with ⟨rfl, rfl, hc0⟩ | ⟨b, rfl, hCl, hCt⟩
   · have hn0 : n = 0 := by omega
     have hm0 : m = 0 := by omega
     subst hn0 hm0
     have hM0 : M = [] := List.eq_nil_of_length_eq_zero (by simpa using hm)
     have hL0 : L = [] := List.eq_nil_of_length_eq_zero (by simpa using own.len)
     subst hM0 hL0 hc0
     refine ⟨_, w, [], cs, _, run_append_fits p2 o2 q1 (by omega) hMw (by simp) (w' := w) (fun ad h => by cases h) (fun _ => rfl), by rw [List.append_nil]; exact hst, by
      rw [List.append_nil]; exact h none 0 [] (Owg.nil _)⟩
   · have hrow := (hst.rows (b, C) (by simp [orow])).1
     obtain ⟨et, hrow⟩ := hrow
     have hsz : 0 + n * te.size + 0 + M.length ≤ C.toArray.size := by
      simp only [List.size_toArray]
      rw [hCl, hm, Nat.zero_add, Nat.add_zero, ← Nat.add_mul]
      exact Nat.mul_le_mul_right _ hfit
     obtain ⟨w', g1, g2, g3, g4, g5, g6, arr', g7, g8, g9⟩ := run_storeCells (P := P) (b := b) (o := 0 + n * te.size) M 0 w C.toArray et hrow hone hsz
     have hO : Owg te.size (n + m) (some ⟨b, 0, none⟩) cap (C.take (n * te.size) ++ M ++ C.drop ((n + m) * te.size)) (L ++ M) := by
      have hle : n * te.size + m * te.size ≤ C.length := by rw [hCl, ← Nat.add_mul]; exact Nat.mul_le_mul_right _ hfit
      have hadd : (n + m) * te.size = n * te.size + m * te.size := Nat.add_mul ..
      refine ⟨by rw [List.length_append, own.len, hm, Nat.add_mul], hfit, .inr ⟨b, rfl, ?_, ?_⟩⟩
      · simp only [List.length_append, List.length_take, List.length_drop]
        omega
      · rw [hCt, hadd, List.take_append_of_le_length (by rw [List.length_append, own.len, hm]; exact Nat.le_refl _)]
        rw [List.take_of_length_le (by rw [List.length_append, own.len, hm]; exact Nat.le_refl _)]
     refine ⟨_, w', [], cs, _, run_append_fits p2 o2 q1 hfit hMw (by rw [← q5]; exact hm) (w' := w') (fun ad had => ?_) (fun h => by cases h), ?_, by
      rw [List.append_nil]; exact h _ _ _ hO⟩
     · cases had
       rw [Addr.add_none, ← q5]
       exact g1
     · rw [List.append_nil]
       refine hst.putRow (C := Row.c C) (C' := Row.c _) g2 g3 g4 g5 g6 ⟨et, ?_⟩ fun l hl => ⟨⟨_, rfl⟩, et, _, _, hrow, g7, g8⟩
       rw [g7]
       congr 2
       apply Array.ext_getElem?
       intro j
       rw [g9 j]
       have hle : n * te.size + m * te.size ≤ C.length := by rw [hCl, ← Nat.add_mul]; exact Nat.mul_le_mul_right _ hfit
       have hadd : (n + m) * te.size = n * te.size + m * te.size := Nat.add_mul ..
       simp only [Nat.zero_add, Nat.add_zero, List.getElem?_toArray]
       by_cases hin : n * te.size ≤ j ∧ j < n * te.size + M.length
       · rw [if_pos hin, List.append_assoc, List.getElem?_append_right (by simp only [List.length_take]; omega), List.getElem?_append_left (by simp only [List.length_take]; omega)]
         congr 1
         simp only [List.length_take]
         omega
       · rw [if_neg hin]
         by_cases hlt : j < n * te.size
         · rw [List.append_assoc, List.getElem?_append_left (by simp only [List.length_take]; omega), List.getElem?_take, if_pos hlt]
         · rw [List.getElem?_append_right (by simp only [List.length_take, List.length_append]; omega), List.getElem?_drop]
           congr 1
           simp only [List.length_take, List.length_append]
           omega
 · obtain ⟨newCap, hc, hrun⟩ := run_append_growsG (w := w) (ty := ty) p2 o2 q1 q3 (cx := cx) hfit hLw (by rw [← q5]; exact own.len) hMw (by rw [← q5]; exact hm) hlen (by rw [← q7]; exact hroom (by omega))
   have hO : Owg te.size (n + m) (some ⟨w.heap.size, 0, none⟩) newCap (L ++ M ++ (Builtin.zeroCells z2.cells (newCap - (n + m))).toList) (L ++ M) := by
    refine ⟨by rw [List.length_append, own.len, hm, Nat.add_mul], hc, .inr ⟨_, rfl, ?_, ?_⟩⟩
    · have hzc : z2.cells = ⟨te.zero⟩ := by rw [q6]
      rw [List.length_append, List.length_append, own.len, hm, hzc, zeroCells_len, hzl, ← Nat.add_mul, ← Nat.add_mul]
      congr 1
      omega
    · rw [List.take_append_of_le_length (by rw [List.length_append, own.len, hm, Nat.add_mul]; exact Nat.le_refl _)]
      rw [List.take_of_length_le (by rw [List.length_append, own.len, hm, Nat.add_mul]; exact Nat.le_refl _)]
   refine ⟨_, _, [], cs, _, hrun, ?_, by rw [List.append_nil]; exact h _ _ _ hO⟩
   · rw [List.append_nil]
     have hle : Fx.Le ⟨D, r1 ++ orow a C ++ r2⟩ ⟨D, r1 ++ r2⟩ := ⟨List.Sublist.append (List.sublist_append_left _ _) (List.Sublist.refl _), fun _ h => h⟩
     have h1 := ((hst.imp hle).newRow (L ++ M ++ (Builtin.zeroCells z2.cells (newCap - (n + m))).toList) e).drew
     refine h1.ent (Ent.perm ?_)
     have hp : ∀ x : Nat × Row, (r1 ++ r2 ++ [x]).Perm (r1 ++ [x] ++ r2) := fun x => by
      rw [List.append_assoc, List.append_assoc]
      exact List.Perm.append (List.Perm.refl _) List.perm_append_comm
     exact hp _

/-- append(s, x...), s a row of the function's own (or nil). -/
theorem XVal.append (hT : TabOk P tab) {t xt ty : TypeId} {ti tx te : TI} {e xe : TypeId} (ht : look tab t = some ti) (hk : ti.k = .slice e) (hx : look tab xt = some tx) (hxk : tx.k = .slice xe) (he : look tab e = some te)
 (hzl : te.zero.length = te.size) {D : World → Prop} {r1 r2 : List (Nat × Row)} {a p : Option Addr} {n cap m cx : Nat} {C L M : List Value} {K : KV} (own : Owg te.size n a cap C L)
 (hM : Sees w0 R av bs cs ⟨D, r1 ++ orow a C ++ r2⟩ p M) (hm : M.length = m * te.size) (hone : ∀ v ∈ M, oneCell v = true) (hlen : n + m ≤ 4611686018427387904) (hroom : (2 * (n + m) + 1000) * te.bytes ≤ 2 ^ 48)
 (h : ∀ a' cap' C', Owg te.size (n + m) a' cap' C' (L ++ M) → K (.slice a' (n + m) cap') bs cs ⟨D, r1 ++ orow a' C' ++ r2⟩) :
 XVal P w0 R av (Builtin.append_ #[t, xt] ty #[.slice a n cap, .slice p m cx]) bs cs ⟨D, r1 ++ orow a C ++ r2⟩ K :=
 XVal.appendG hT ht hk hx hxk he hzl own hM hm hone hlen (fun hc => by
  have := Nat.mul_le_mul_right te.bytes (nextslicecap_le (need := n + m) (cap := cap) hc)
  omega) h

/-- append(s, x...) that must make a new array. -/
theorem XVal.appendNew (hT : TabOk P tab) {t xt ty : TypeId} {ti tx te : TI} {e xe : TypeId} (ht : look tab t = some ti) (hk : ti.k = .slice e) (hx : look tab xt = some tx) (hxk : tx.k = .slice xe) (he : look tab e = some te)
 (hzl : te.zero.length = te.size) {F : Fx} {a p : Option Addr} {n cap m cx : Nat} {L M : List Value} {K : KV} (hL : Sees w0 R av bs cs F a L) (hl : L.length = n * te.size)
 (hM : Sees w0 R av bs cs F p M) (hm : M.length = m * te.size) (hc : cap < n + m) (hlen : n + m ≤ 4611686018427387904) (hroom : (2 * (n + m) + 1000) * te.bytes ≤ 2 ^ 48)
 (h : ∀ b cap' C', Owg te.size (n + m) (some ⟨b, 0, none⟩) cap' C' (L ++ M) → K (.slice (some ⟨b, 0, none⟩) (n + m) cap') bs cs ⟨F.D, F.rs ++ [(b, Row.c C')]⟩) :
 XVal P w0 R av (Builtin.append_ #[t, xt] ty #[.slice a n cap, .slice p m cx]) bs cs F K := by
 refine XVal_iff.2 fun w hst => ?_
 obtain ⟨i1, d1, z1, p1, p2, p3, p4, p5, p6, p7, p8⟩ := mkTI_parts (hT _ _ ht)
 obtain ⟨i3, d3, z3, o1, o2, o3, o4, o5, o6, o7, o8⟩ := mkTI_parts (hT _ _ hx)
 obtain ⟨i2, d2, z2, q1, q2, q3, q4, q5, q6, q7, q8⟩ := mkTI_parts (hT _ _ he)
 rw [p4] at hk
 rw [o4] at hxk
 obtain rfl := slice_of hk
 obtain rfl := slice_of hxk
 obtain ⟨newCap, hc, hrun⟩ := run_append_grows (w := w) (ty := ty) p2 o2 q1 q3 (cx := cx) (Nat.not_le.2 hc) (hL w hst) (by rw [← q5]; exact hl) (hM w hst) (by rw [← q5]; exact hm) hlen (by rw [← q7]; exact hroom)
 have hO : Owg te.size (n + m) (some ⟨w.heap.size, 0, none⟩) newCap (L ++ M ++ (Builtin.zeroCells z2.cells (newCap - (n + m))).toList) (L ++ M) := by
  refine ⟨by rw [List.length_append, hl, hm, Nat.add_mul], hc, .inr ⟨_, rfl, ?_, ?_⟩⟩
  · have hzc : z2.cells = ⟨te.zero⟩ := by rw [q6]
    rw [List.length_append, List.length_append, hl, hm, hzc, zeroCells_len, hzl, ← Nat.add_mul, ← Nat.add_mul]
    congr 1
    omega
  · rw [List.take_append_of_le_length (by rw [List.length_append, hl, hm, Nat.add_mul]; exact Nat.le_refl _)]
    rw [List.take_of_length_le (by rw [List.length_append, hl, hm, Nat.add_mul]; exact Nat.le_refl _)]
 refine ⟨_, _, [], cs, _, hrun, ?_, by rw [List.append_nil]; exact h _ _ _ hO⟩
 rw [List.append_nil]
 exact (hst.newRow _ e).drew

end
end Go.Sx
namespace Go.Sx
set_option linter.unusedVariables false

section
variable {P : Program} {tab : Tab} {w0 : World} {R : Nat → Nat → Prop} {av : Nat → Prop} {bs : List (Nat × Nat)} {cs : List (List Value)} {F : Fx}

theorem eqGuard_slice (op : BinOp) (t : TypeId) (x y : Operand) (a b : Option Addr) (n m c d : Nat) (w : World) : (eqGuard op t x y (.slice a n c) (.slice b m d)).run P w = .ok () w := by
 cases op <;> rfl

theorem run_equalIn_nil {t e : TypeId} (h : P.underlying t = some (.slice e)) (d : Nat) (a : Option Addr) (n c : Nat) (w : World) : (Op.equalIn (d + 1) t (.slice a n c) (.slice none 0 0)).run P w = .ok a.isNone w := by
 unfold Op.equalIn
 rw [run_bind_ok (run_underlying' h w)]
 cases a <;> rfl

theorem run_equal_nil {t e : TypeId} (h : P.underlying t = some (.slice e)) (a : Option Addr) (n c : Nat) (w : World) : (Op.equal t (.slice a n c) (.slice none 0 0)).run P w = .ok a.isNone w :=
 run_equalIn_nil h 9999 a n c w

/-- s == nil -/
theorem XRead.eqNil (hT : TabOk P tab) {t e : TypeId} {ti : TI} (ht : look tab t = some ti) (hk : ti.k = .slice e) {x y : Operand} {a : Option Addr} {n c : Nat} {K : Value → Prop} (h : K (.bool a.isNone)) :
 XRead P w0 R av (do eqGuard .eql t x y (.slice a n c) (.slice none 0 0); binOp .eql t (.slice a n c) (.slice none 0 0)) bs cs F K := by
 refine (XRead_iff _ _ _ _).2 ⟨_, fun w _ => ?_, h⟩
 obtain ⟨i1, d1, z1, p1, p2, p3, p4, p5, p6, p7, p8⟩ := mkTI_parts (hT _ _ ht)
 rw [p4] at hk
 obtain rfl := slice_of hk
 rw [run_bind_ok (eqGuard_slice _ _ _ _ _ _ _ _ _ _ w)]
 show (do pure (Value.bool (← Op.equal t (.slice a n c) (.slice none 0 0))) : Sem Value).run P w = _
 rw [run_bind_ok (run_equal_nil p2 a n c w)]
 rfl

/-! ### strings out of bytes -/

def strV (l : List UInt8) : Value := .string ⟨⟨l⟩⟩

def stepB (c : Value) (s : ByteArray) : Sem (ForInStep ByteArray) := match c with
 | .int .u8 n => pure (ForInStep.yield (s.push (UInt8.ofNat n.toNat)))
 | _ => do
  stuck "bytesToString: byte expected"
  pure (ForInStep.yield s)

theorem stepB_byte (x : UInt8) (acc : List UInt8) : stepB (byteV x) ⟨⟨acc⟩⟩ = pure (ForInStep.yield ⟨⟨acc ++ [x]⟩⟩) := by
 unfold stepB byteV
 simp only
 congr 2
 have : UInt8.ofNat (x.toNat : Int).toNat = x := by simp
 rw [this]
 show ByteArray.mk (Array.push ⟨acc⟩ x) = _
 congr 1
 apply Array.toList_inj.1
 simp

theorem run_bytes_loop (w : World) : ∀ (l acc : List UInt8), (forIn (l.map byteV) (⟨⟨acc⟩⟩ : ByteArray) stepB : Sem ByteArray).run P w = .ok ⟨⟨acc ++ l⟩⟩ w
 | [], acc => by simp
 | x :: l, acc => by
  simp only [List.map_cons, List.forIn_cons, stepB_byte]
  rw [run_bind_ok (run_pure P _ w)]
  simp only
  rw [run_bytes_loop w l (acc ++ [x])]
  simp

theorem run_bytesToString {w : World} {a : Option Addr} {n c : Nat} {l : List UInt8} (h : RowAt w a (l.map byteV)) (hn : n = l.length) : (Conv.bytesToString (.slice a n c)).run P w = .ok (strV l) w := by
 cases a with
 | none =>
  have : l = [] := by simpa using RowAt.nil_of h
  subst this
  rfl
 | some ad =>
  have e : Conv.bytesToString (.slice (some ad) n c) = (do let cells ← loadCells ad n; let s ← forIn cells ByteArray.empty stepB; pure (.string s)) := rfl
  have hl : (loadCells ad n).run P w = .ok ⟨l.map byteV⟩ w := by
   have := run_firstCells (P := P) (n := n) (c := c) (m := n) (sz := 1) h (by simp [hn])
   simpa [Builtin.firstCells] using this
  rw [e, run_bind_ok hl, ← Array.forIn_toList]
  have hz := run_bytes_loop (P := P) w l []
  have he : (ByteArray.mk ⟨[]⟩) = ByteArray.empty := rfl
  rw [he] at hz
  rw [run_bind_ok hz]
  rfl

theorem string_of {d : TypeDesc} (h : mkTK d = .str) : d = .string := by
 cases d <;> simp [mkTK] at h
 rfl

/-- string(b) -/
theorem XRead.bytes (hT : TabOk P tab) {t u e : TypeId} {ti tu te : TI} (ht : look tab t = some ti) (hk : ti.k = .slice e) (hu : look tab u = some tu) (hs : tu.k = .str) (he : look tab e = some te) (hb : te.k = .int .u8)
 {a : Option Addr} {n c : Nat} {l : List UInt8} {K : Value → Prop} (hr : Sees w0 R av bs cs F a (l.map byteV)) (hn : n = l.length) (h : K (strV l)) : XRead P w0 R av (convert t u (.slice a n c)) bs cs F K := by
 refine (XRead_iff _ _ _ _).2 ⟨_, fun w hst => ?_, h⟩
 obtain ⟨i1, d1, z1, p1, p2, p3, p4, p5, p6, p7, p8⟩ := mkTI_parts (hT _ _ ht)
 obtain ⟨i3, d3, z3, o1, o2, o3, o4, o5, o6, o7, o8⟩ := mkTI_parts (hT _ _ hu)
 obtain ⟨i2, d2, z2, q1, q2, q3, q4, q5, q6, q7, q8⟩ := mkTI_parts (hT _ _ he)
 rw [p4] at hk
 rw [o4] at hs
 rw [q4] at hb
 obtain rfl := slice_of hk
 obtain rfl := string_of hs
 have hb' : d2 = .int .u8 := by cases d2 <;> simp [mkTK] at hb; rw [hb]
 subst hb'
 unfold convert
 rw [run_bind_ok (run_underlying' p2 w), run_bind_ok (run_underlying' o2 w)]
 simp only
 rw [run_bind_ok (run_underlying' q2 w)]
 exact run_bytesToString (hr w hst) hn

theorem eqGuard_str (op : BinOp) (t : TypeId) (x y : Operand) (a b : ByteArray) (w : World) : (eqGuard op t x y (.string a) (.string b)).run P w = .ok () w := by
 cases op <;> rfl

theorem toList_mk (l : List UInt8) : (ByteArray.mk ⟨l⟩).toList = l := by
 rw [ByteArray.toList_eq]

theorem XRead.strEq {t : TypeId} {x y : Operand} {l m : List UInt8} {K : Value → Prop} (h : K (.bool (l == m))) :
 XRead P w0 R av (do eqGuard .eql t x y (strV l) (strV m); binOp .eql t (strV l) (strV m)) bs cs F K := by
 refine (XRead_iff _ _ _ _).2 ⟨_, fun w _ => ?_, h⟩
 unfold strV
 rw [run_bind_ok (eqGuard_str _ _ _ _ _ _ w)]
 simp only [binOp, Op.stringOp, toList_mk]
 rfl

theorem XRead.min {ts : Array TypeId} {ty : TypeId} {k : IntKind} {a b : Int} {K : Value → Prop} (h : K (.int k (if b < a then b else a))) :
 XRead P w0 R av (Builtin.min_ ts ty #[.int k a, .int k b]) bs cs F K := (XRead_iff _ _ _ _).2 ⟨_, fun w _ => rfl, h⟩

theorem int_of {d : TypeDesc} {k : IntKind} (h : mkTK d = .int k) : d = .int k := by
 cases d <;> simp [mkTK] at h
 rw [h]

end
end Go.Sx
namespace Go.Sx
set_option linter.unusedVariables false

/-- A slice's address and capacity. -/
structure Hd where
 a : Option Addr
 c : Nat

def Hd.nil : Hd := ⟨none, 0⟩

/-- The slice's value. -/
abbrev Hd.v (h : Hd) (n : Nat) : Value := .slice h.a n h.c

/-- What is known of a slice of n elements without looking at memory. -/
structure Hd.Ok (h : Hd) (n : Nat) : Prop where
 nil : h.a = none → n = 0
 cap : n ≤ h.c

theorem Hd.nil_ok : Hd.nil.Ok 0 := ⟨fun _ => rfl, Nat.le_refl _⟩

/-- The slice's bytes. -/
abbrev By (w : World) (h : Hd) (l : List UInt8) : Prop := RowAt w h.a (l.map byteV)

theorem By.nil (w : World) : By w Hd.nil [] := rfl

theorem byte_one {l : List UInt8} : ∀ v ∈ l.map byteV, oneCell v = true := by
 intro v hv
 obtain ⟨x, _, rfl⟩ := List.mem_map.1 hv
 rfl

/-- A new slice of bytes is handed back. -/
def RelB (l : List UInt8) (v : Value) (F : Fx) : Prop := ∃ h : Hd, v = h.v l.length ∧ h.Ok l.length ∧ F = ⟨fun w => By w h l, []⟩

theorem Owg.hd {n : Nat} {a : Option Addr} {cap : Nat} {C L : List Value} (h : Owg 1 n a cap C L) : (⟨a, cap⟩ : Hd).Ok n := ⟨h.none_nil, h.fit⟩

theorem wrap_i64 {n : Int} (h : -9223372036854775808 ≤ n ∧ n ≤ 9223372036854775807) : IntKind.i64.wrap n = n := by
 simp only [IntKind.wrap, IntKind.bits, IntKind.signed]
 have : (2 : Int) ^ 64 = 18446744073709551616 := by decide
 have : (2 : Int) ^ (64 - 1) = 9223372036854775808 := by decide
 simp only [*, Bool.true_and, decide_eq_true_eq]
 split <;> omega

section
variable {P : Program} {tab : Tab} {w0 : World} {R : Nat → Nat → Prop} {av : Nat → Prop} {bs : List (Nat × Nat)} {cs : List (List Value)} {F : Fx}

/-- b[i]'s address. -/
theorem XRead.byteAt (hT : TabOk P tab) {t : TypeId} {ti te : TI} {e : TypeId} (ht : look tab t = some ti) (hk : ti.k = .slice e) (he : look tab e = some te) (hsz : te.size = 1) {h : Hd} {n : Nat} {k : IntKind} {i : Int} {K : Value → Prop}
 (j : Nat) (hj : i = (j : Int)) (h1 : j < n) (hh : h.Ok n) (hK : ∀ ad, h.a = some ad → K (.pointer (some (ad.add j)))) : XRead P w0 R av (Instr.indexAt t (.slice h.a n h.c) (.int k i)) bs cs F K := by
 subst hj
 refine XRead.index hT ht hk he (by omega) (by omega) hh.nil fun ad had => ?_
 rw [hsz, Nat.mul_one]
 exact hK ad had

/-- b[i] -/
theorem XRead.byteLd (hT : TabOk P tab) {t : TypeId} {ti : TI} (ht : look tab t = some ti) (hk : ti.k.agg = false) {h : Hd} {ad : Addr} {l : List UInt8} {j : Nat} {K : Value → Prop} (had : h.a = some ad)
 (hs : Sees w0 R av bs cs F h.a (l.map byteV)) (hj : j < l.length) (hK : K (byteV l[j])) : XRead P w0 R av (Instr.loadAt t (.pointer (some (ad.add j)))) bs cs F K := by
 rw [had] at hs
 exact XRead.load hT ht hk hs rfl (by simp [hj]) hK

end

theorem cutA_zero (a : Option Addr) (m sz : Nat) : cutA a 0 m sz = a := by
 unfold cutA
 split
 · rfl
 · cases a with
   | none => rfl
   | some ad => simp [Addr.add]

end Go.Sx
namespace Go.Sx
set_option linter.unusedVariables false

theorem Ent.share1 {D : World → Prop} {b : Nat} {C : List Value} {rs : List (Nat × Row)} : Ent ⟨D, (b, C) :: rs⟩ ⟨fun w => D w ∧ RowAt w (some ⟨b, 0, none⟩) C, rs⟩ :=
 Owg.share (sz := 1) (n := C.length) (cap := C.length) (a := some ⟨b, 0, none⟩) (r1 := []) (r2 := rs) (Owg.full (by simp))

def RowsAt (w : World) : List (Nat × Row) → Prop
 | [] => True
 | (b, .c l) :: rs => RowAt w (some ⟨b, 0, none⟩) l ∧ RowsAt w rs
 | (_, .m _ _) :: rs => True ∧ RowsAt w rs
 | (_, .o _) :: rs => True ∧ RowsAt w rs

theorem Ent.shareAll : ∀ {rs : List (Nat × Row)} {D : World → Prop}, Ent ⟨D, rs⟩ ⟨fun w => D w ∧ RowsAt w rs, []⟩
 | [], D => Ent.imp fun w h => ⟨h, trivial⟩
 | (b, .m es k) :: rs, D => ((show Ent ⟨D, (b, .m es k) :: rs⟩ ⟨D, rs⟩ from Ent.of_le ⟨List.sublist_cons_self _ _, fun _ h => h⟩).trans Ent.shareAll).trans (Ent.imp fun w h => ⟨h.1, trivial, h.2⟩)
 | (b, .o x) :: rs, D => ((show Ent ⟨D, (b, .o x) :: rs⟩ ⟨D, rs⟩ from Ent.of_le ⟨List.sublist_cons_self _ _, fun _ h => h⟩).trans Ent.shareAll).trans (Ent.imp fun w h => ⟨h.1, trivial, h.2⟩)
 | (b, .c C) :: rs, D => (Ent.share1.trans Ent.shareAll).trans (Ent.imp fun w h => ⟨h.1.1, h.1.2, h.2⟩)

theorem Owg.row {w : World} {sz n b cap : Nat} {C L : List Value} (h : Owg sz n (some ⟨b, 0, none⟩) cap C L) (hr : RowAt w (some ⟨b, 0, none⟩) C) : RowAt w (some ⟨b, 0, none⟩) L := by
 rcases h.alt with ⟨h1, _⟩ | ⟨b', h1, _, h3⟩
 · cases h1
 · rw [← h3]; exact hr.take _

end Go.Sx
namespace Go.Sx
open Go
variable {P : Program} {tab : Tab} {w0 : World} {R : Nat → Nat → Prop} {av : Nat → Prop} {bs : List (Nat × Nat)} {cs : List (List Value)} {F : Fx}

/-- Appending no element to a slice changes nothing. -/
theorem XVal.append0 (hT : TabOk P tab) {t xt ty : TypeId} {ti tx te : TI} {e xe : TypeId} (ht : look tab t = some ti) (hk : ti.k = .slice e) (hx : look tab xt = some tx) (hxk : tx.k = .slice xe) (he : look tab e = some te)
 {a p : Option Addr} {n cap m cx : Nat} {K : KV} (hfit : n ≤ cap) (hm : m = 0) (hM : Sees w0 R av bs cs F p [])
 (h : K (.slice a n cap) bs cs F) : XVal P w0 R av (Builtin.append_ #[t, xt] ty #[.slice a n cap, .slice p m cx]) bs cs F K := by
 subst hm
 refine XVal_iff.2 fun w hst => ?_
 obtain ⟨i1, d1, z1, p1, p2, p3, p4, p5, p6, p7, p8⟩ := mkTI_parts (hT _ _ ht)
 obtain ⟨i3, d3, z3, o1, o2, o3, o4, o5, o6, o7, o8⟩ := mkTI_parts (hT _ _ hx)
 obtain ⟨i2, d2, z2, q1, q2, q3, q4, q5, q6, q7, q8⟩ := mkTI_parts (hT _ _ he)
 rw [p4] at hk
 rw [o4] at hxk
 obtain rfl := slice_of hk
 obtain rfl := slice_of hxk
 exact ⟨_, w, [], cs, _, run_append_fits p2 o2 q1 (m := 0) (M := []) hfit (hM w hst) (by simp) (w' := w) (fun ad _ => rfl) (fun _ => rfl), by rw [List.append_nil]; exact hst, by rw [List.append_nil]; exact h⟩

end Go.Sx
namespace Go.Sx
open Go
variable {P : Program} {tab : Tab} {w0 : World} {R : Nat → Nat → Prop} {av : Nat → Prop} {bs : List (Nat × Nat)} {cs : List (List Value)} {F F' : Fx}

theorem XCall.ent {f : FuncId} {vs : List Value} {K : KV} (h : Ent F F') (k : XCall P w0 R av f vs bs cs F' K) : XCall P w0 R av f vs bs cs F K :=
 XCall_iff.2 ⟨(XCall_iff.1 k).1, fun w hst => (XCall_iff.1 k).2 w (h _ _ _ _ _ _ hst)⟩

theorem XVal.ent {m : Sem Value} {K : KV} (h : Ent F F') (k : XVal P w0 R av m bs cs F' K) : XVal P w0 R av m bs cs F K :=
 XVal_iff.2 fun w hst => XVal_iff.1 k w (h _ _ _ _ _ _ hst)

theorem XStop.ent {c : Code} {tm : List SV} {K : Exit → KT} (h : Ent F F') (k : XStop P w0 R av c tm bs cs F' K) : XStop P w0 R av c tm bs cs F K :=
 XStop_iff.2 fun a w hf hst => XStop_iff.1 k a w hf (h _ _ _ _ _ _ hst)

end Go.Sx
