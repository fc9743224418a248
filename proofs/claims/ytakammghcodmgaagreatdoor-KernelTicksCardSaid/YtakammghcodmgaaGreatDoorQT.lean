/- Parts of the proof: SyX. -/
import Derived.Test.YtakammghcodmgaaGreatDoorQR
namespace Go.Sx
set_option linter.unusedVariables false

theorem snoc_step {α : Type} {v : α} {K : List α → Prop} (h : K [v]) : snocK [] v K := h
theorem snocK_of {α : Type} {l : List α} {v : α} {K : List α → Prop} (h : K (l ++ [v])) : snocK l v K := by
 induction l generalizing K with
 | nil => exact h
 | cons x l ih => exact ih h
theorem setK_of {α : Type} {l : List α} {n : Nat} {v : α} {K : List α → Prop} (hn : n < l.length) (h : K (l.set n v)) : setK l n v K := by
 induction l generalizing n K with
 | nil => exact absurd hn (Nat.not_lt_zero _)
 | cons x l ih =>
  cases n with
  | zero => exact h
  | succ n => exact ih (Nat.lt_of_succ_lt_succ hn) h
theorem natLen_of {α : Type} {l : List α} {n : Nat} {K : Nat → Prop} (h : K (n + l.length)) : natLen l n K := by
 induction l generalizing n with
 | nil => exact h
 | cons x l ih => exact ih (by rw [Nat.add_assoc, Nat.add_comm 1]; exact h)
theorem fin_of {d : Tmp} {tm : List SV} {sv : SV} {K : List SV → Prop} (hd : d < tm.length) (h : K (tm.set d sv)) : fin (some d) tm sv K := setK_of hd h

section
variable {P : Program} {tab : Tab} {w0 : World} {R : Nat → Nat → Prop} {av : Nat → Prop}
/-- A small object is made. -/
theorem xops_alloc1 {dst : Option Tmp} {e ty : TypeId} {pos : String} {after : Array Edge} {ti : TI} (ht : look tab e = some ti) (hb : bigTI ti = false) {all r : List Oper} {tm : List SV} {bs : List (Nat × Nat)} {cs : List (List Value)} {D : Fx} {K : KT}
 (h : boxK dst ti.zero tm bs cs D fun tm bs cs D => xops P tab w0 R av all r none tm bs cs D K) :
 xops P tab w0 R av all (⟨dst, .alloc e, ty, pos, after, none⟩ :: r) none tm bs cs D K := by
 show (match look tab e with
  | some ti => match bigTI ti with
   | true => _
   | false => boxK dst ti.zero tm bs cs D fun tm bs cs D => xops P tab w0 R av all r none tm bs cs D K
  | none => _)
 rw [ht]
 show (match bigTI ti with
  | true => _
  | false => boxK dst ti.zero tm bs cs D fun tm bs cs D => xops P tab w0 R av all r none tm bs cs D K)
 rw [hb]
 exact h
theorem xops_allocS {d : Tmp} {e ty : TypeId} {pos : String} {after : Array Edge} {ti : TI} (ht : look tab e = some ti) (hb : bigTI ti = false) {z : List Value} (hz : ti.zero = z) {all r : List Oper} {tm : List SV} {bs : List (Nat × Nat)} {cs : List (List Value)} {D : Fx} {K : KT} (hd : d < tm.length)
 (h : ∀ b : Nat, xops P tab w0 R av all r none (tm.set d (.p bs.length 0)) (bs ++ [(b, 0)]) (cs ++ [z]) D K) :
 xops P tab w0 R av all (⟨some d, .alloc e, ty, pos, after, none⟩ :: r) none tm bs cs D K := by
 subst hz
 refine xops_alloc1 ht hb (natLen_of ?_)
 rw [Nat.zero_add]
 exact fun b => snocK_of (snocK_of (fin_of hd (h b)))
/-- A great object is made. -/
theorem xops_allocG {dst : Option Tmp} {e ty : TypeId} {pos : String} {after : Array Edge} {ti : TI} (ht : look tab e = some ti) (hb : bigTI ti = true) {all r : List Oper} {tm : List SV} {bs : List (Nat × Nat)} {cs : List (List Value)} {D : Fx} {K : KT}
 (h : XVal P w0 R av (Instr.alloc e true (.tuple #[])) bs cs D fun v bs cs D => fin dst tm (.v v) fun tm' => xops P tab w0 R av all r none tm' bs cs D K) :
 xops P tab w0 R av all (⟨dst, .alloc e, ty, pos, after, none⟩ :: r) none tm bs cs D K := by
 show (match look tab e with
  | some ti => match bigTI ti with
   | true => XVal P w0 R av (Instr.alloc e true (.tuple #[])) bs cs D fun v bs cs D => fin dst tm (.v v) fun tm' => xops P tab w0 R av all r none tm' bs cs D K
   | false => _
  | none => _)
 rw [ht]
 show (match bigTI ti with
  | true => XVal P w0 R av (Instr.alloc e true (.tuple #[])) bs cs D fun v bs cs D => fin dst tm (.v v) fun tm' => xops P tab w0 R av all r none tm' bs cs D K
  | false => _)
 rw [hb]
 exact h
theorem nthK_of {α : Type} {l : List α} {n : Nat} {v : α} {K : α → Prop} (hn : l[n]? = some v) (h : K v) : nthK l n K := by
 induction l generalizing n with
 | nil => simp at hn
 | cons x l ih =>
  cases n with
  | zero =>
   obtain rfl : x = v := by simpa using hn
   exact h
  | succ n => exact ih (by simpa using hn)
/-- A store through a pointer, by a lemma. -/
theorem xops_storeV {t ty : TypeId} {pos : String} {after : Array Edge} {i j : Tmp} {p v : Value} {all r : List Oper} {tm : List SV} {bs : List (Nat × Nat)} {cs : List (List Value)} {D : Fx} {K : KT} (hi : tm[i]? = some (.v p)) (hj : tm[j]? = some (.v v))
 (h : XUnit P w0 R av (Instr.storeAt t p v) bs cs D fun bs cs D => xops P tab w0 R av all r none tm bs cs D K) :
 xops P tab w0 R av all (⟨none, .store t (.tmp i) (.tmp j), ty, pos, after, none⟩ :: r) none tm bs cs D K := by
 show nthK tm i _
 refine nthK_of hi ?_
 show nthK tm j _
 exact nthK_of hj h
/-- Two codes, one behind the other: what is to hold behind the first is a variable of which only the needed is known. (The kernel runs on where a great nest of such conditions is in sight.) -/
theorem xc_seqK {a b : Code} {tm : List SV} {bs : List (Nat × Nat)} {cs : List (List Value)} {D : Fx} {K : Exit → KT}
 (h : ∀ K' : Exit → KT, (∀ tm bs cs D, xc P tab w0 R av b tm bs cs D K → K' .normal tm bs cs D) → (∀ e tm bs cs D, e ≠ .normal → K e tm bs cs D → K' e tm bs cs D) → xc P tab w0 R av a tm bs cs D K') : xc P tab w0 R av (.seq a b) tm bs cs D K := by
 refine h (fun e tm bs cs D => match e with
  | .normal => xc P tab w0 R av b tm bs cs D K
  | e => K e tm bs cs D) (fun _ _ _ _ h => h) fun e tm bs cs D he h => ?_
 cases e with
 | normal => exact absurd rfl he
 | _ => exact h
theorem xc_blockK {id : Nat} {c : Code} {tm : List SV} {bs : List (Nat × Nat)} {cs : List (List Value)} {D : Fx} {K : Exit → KT}
 (h : ∀ K' : Exit → KT, (∀ tm bs cs D, K .normal tm bs cs D → K' .normal tm bs cs D) → (∀ tm bs cs D, K .normal tm bs cs D → K' (.exit id) tm bs cs D) → (∀ tm bs cs D, K .ret tm bs cs D → K' .ret tm bs cs D) → xc P tab w0 R av c tm bs cs D K') : xc P tab w0 R av (.block id c) tm bs cs D K := by
 refine h (fun e tm bs cs D => match e with
  | .exit i => match Nat.beq i id with
   | true => K .normal tm bs cs D
   | false => K (.exit i) tm bs cs D
  | e => K e tm bs cs D) (fun _ _ _ _ h => h) (fun tm bs cs D h => ?_) (fun _ _ _ _ h => h)
 show (match Nat.beq id id with
  | true => K .normal tm bs cs D
  | false => K (.exit id) tm bs cs D)
 rw [show Nat.beq id id = true from Nat.beq_refl id]
 exact h
theorem xc_region {id : Nat} {ops : List Oper} {tm : List SV} {bs : List (Nat × Nat)} {cs : List (List Value)} {D : Fx} {K : Exit → KT} (h : xops P tab w0 R av ops ops none tm bs cs D (K .normal)) : xc P tab w0 R av (.region id ⟨ops⟩ false) tm bs cs D K := h
theorem xc_skip {tm : List SV} {bs : List (Nat × Nat)} {cs : List (List Value)} {D : Fx} {K : Exit → KT} (h : K .normal tm bs cs D) : xc P tab w0 R av .skip tm bs cs D K := h
/-- A region that only makes a great object. -/
theorem xc_allocBig {id : Nat} {dst : Option Tmp} {e ty : TypeId} {pos : String} {after : Array Edge} {ti : TI} (ht : look tab e = some ti) (hb : bigTI ti = true) {c2 : Code} {tm : List SV} {bs : List (Nat × Nat)} {cs : List (List Value)} {D : Fx} {K : Exit → KT}
 (h : XVal P w0 R av (Instr.alloc e true (.tuple #[])) bs cs D fun v bs cs D => fin dst tm (.v v) fun tm' => xc P tab w0 R av c2 tm' bs cs D K) :
 xc P tab w0 R av (.seq (.region id #[⟨dst, .alloc e, ty, pos, after, none⟩] false) c2) tm bs cs D K := by
 show (match look tab e with
  | some ti => match bigTI ti with
   | true => XVal P w0 R av (Instr.alloc e true (.tuple #[])) bs cs D fun v bs cs D => fin dst tm (.v v) fun tm' => xc P tab w0 R av c2 tm' bs cs D K
   | false => _
  | none => _)
 rw [ht]
 show (match bigTI ti with
  | true => XVal P w0 R av (Instr.alloc e true (.tuple #[])) bs cs D fun v bs cs D => fin dst tm (.v v) fun tm' => xc P tab w0 R av c2 tm' bs cs D K
  | false => _)
 rw [hb]
 exact h

/-- A function that rows are handed to, walked statement by statement. -/
theorem RowsSpec.of_stop (hT : TabOk P tab) {f : FuncId} {fn : Func} (hfn : P.funcs[f]? = some fn) {c : Code} (hb : fn.body = some c) (hnm : (fn.name == "runtime.NumGoroutine") = false) {vs : List Value}
 {n : Nat} (hn : fn.ntmps = vs.length + n) {rows : List (Nat × Row)} (hc : ∀ r ∈ rows, CM r.2) {Pre : World → Prop} {Rel : Value → Fx → Prop}
 (h : ∀ w0 av, XStop P w0 (fun b _ => IsIn rows b) av c (vs.map SV.v ++ List.replicate n .any) [] [] ⟨Pre, rows⟩ (kEnd tab fn.results.toList (pureFin Rel))) : RowsSpec P f vs rows Pre Rel := by
 unfold RowsSpec
 refine ⟨⟨fn, hfn, by rw [hb]; rfl, hnm⟩, fun av w hav hrows hnd hpre => ?_⟩
 have hst : St w (fun b _ => IsIn rows b) av w [] [] ⟨Pre, rows⟩ :=
  ⟨KeepX.refl _ _, trivial, by simpa using hnd, fun i hi => by simp at hi, hav, fun r hr => ⟨(hrows r hr).1, .inr ⟨(hrows r hr).2, fun _ => ⟨r, hr, rfl⟩, hc r hr⟩⟩,
   hpre.less fun b hb => hb.elim .inl fun h => h.elim (fun ⟨x, hx, _⟩ => by simp at hx) .inr⟩
 have hfr : FrameOk [] (vs.map SV.v ++ List.replicate n .any) (vs.toArray ++ Array.replicate (fn.ntmps - vs.toArray.size) undef) := by
  refine ⟨by simp; omega, fun t => ?_⟩
  rw [nth_eq]
  by_cases ht : t < vs.length
  · rw [List.getElem?_append_left (by simpa using ht), List.getElem?_map, List.getElem?_eq_getElem ht]
    have e : (vs.toArray ++ Array.replicate (fn.ntmps - vs.toArray.size) undef).getD t undef = vs[t] := by
     rw [Array.getD_eq_getD_getElem?, Array.getElem?_append_left (by simpa using ht)]
     simp [ht]
    rw [e]
    exact rfl
  · have : (vs.map SV.v ++ List.replicate n SV.any)[t]?.getD .any = .any := by
     rw [List.getElem?_append_right (by simp; omega), List.getElem?_replicate]
     split <;> rfl
    rw [this]
    exact trivial
 have key : Calls P f vs.toArray w fun e w' => ∃ v bs' cs' D', e = .returned v ∧ St w (fun b _ => IsIn rows b) av w' bs' cs' D' ∧ pureFin Rel v bs' cs' D' := by
  refine calls_of_wp hfn hb ?_
  refine wp_mono (XStop_iff.1 (h w av) _ _ hfr hst) ?_
  rintro e act w' ⟨hd, tm', bs', cs', D', h1, h2, h3⟩
  cases e with
  | normal =>
   obtain ⟨v, g1, g2⟩ := run_results hT h1 h2.box (fun r hr => (h2.rows r hr).1) h3
   exact ⟨hd, v, g1, v, bs', cs', D', rfl, h2, g2⟩
  | ret =>
   obtain ⟨v, g1, g2⟩ := run_results hT h1 h2.box (fun r hr => (h2.rows r hr).1) h3
   exact ⟨hd, v, g1, v, bs', cs', D', rfl, h2, g2⟩
  | _ => exact h3.elim
 refine key.mono ?_
 rintro e w' ⟨v, bs', cs', F, rfl, h1, F2, h2, h3⟩
 have h4 := h1.ent h2
 exact ⟨v, F2, rfl, h4.keep, fun r hr => ⟨(h4.rows r hr).1, (h4.rows r hr).2.imp id fun q => ⟨q.2.1 0, q.2.2⟩⟩, (List.nodup_append.1 h4.nd).2.1, h4.data.less fun b hb => hb.elim .inl fun h => .inr (.inr h), h3⟩
end
end Go.Sx
