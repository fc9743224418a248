/- Parts of the proof: SyT, SyU. -/
import Derived.Test.YtakammghcodmgaaGreatDoorQI
namespace Go.Sx
open Go
set_option linter.unusedVariables false

theorem laid_whole {z C : List Value} (h : C.length = z.length) : laid z 0 C = C := by
 unfold laid
 rw [List.take_zero, List.nil_append, Nat.zero_add, List.drop_of_length_le (by omega), List.append_nil]

def cellsOk : Value → Bool
 | .agg _ | .bool _ | .int _ _ | .string _ | .pointer _ | .slice _ _ _ | .map _ | .func _ _ _ | .nilFunc | .iface _ _ | .nilIface => true
 | _ => false

theorem cellsK_mk {v : Value} {K : List Value → Prop} (h : cellsOk v = true) (k : K v.cells.toList) : cellsK v K := by
 cases v <;> first | exact k | (cases h; done)

/-- The parts of a struct laid over its zero. -/
def fillL (ti : TI) : List (Nat × Value) → List Value → List Value
 | [], z => z
 | (i, v) :: r, z => match ti.offs[i]? with
  | some (off, _, _) => fillL ti r (laid z off v.cells.toList)
  | none => []
def fillOk (ti : TI) (n : Nat) : List (Nat × Value) → Bool
 | [] => true
 | (i, v) :: r => match ti.offs[i]? with
  | some (off, sz, _) => cellsOk v && (Nat.beq v.cells.toList.length sz && (Nat.ble (off + sz) n && fillOk ti n r))
  | none => false

theorem fillK_mk {ti : TI} {n : Nat} : ∀ {ps : List (Nat × Value)} {z : List Value} {K : List Value → Prop}, z.length = n → fillOk ti n ps = true → K (fillL ti ps z) → fillK (structPlace ti) ps z K
 | [], z, K, _, _, h => h
 | (i, v) :: r, z, K, hz, ho, h => by
  unfold fillOk at ho
  unfold fillL at h
  cases hi : ti.offs[i]? with
  | none => rw [hi] at ho; cases ho
  | some x =>
   obtain ⟨off, sz, g⟩ := x
   rw [hi] at ho h
   simp only [Bool.and_eq_true] at ho
   obtain ⟨h1, h2, h3, h4⟩ := ho
   have h2 := Nat.eq_of_beq_eq_true h2
   have h3 := Nat.le_of_ble_eq_true h3
   unfold fillK
   refine cellsK_mk h1 ?_
   unfold structPlace
   refine nthK_mk hi ?_
   exact lenK_mk h2 (overK_mk (by omega) (fillK_mk (by rw [laid_len (by omega)]; exact hz) h4 h))

theorem fillK_to {ti : TI} {n : Nat} {ps : List (Nat × Value)} {z X : List Value} {K : List Value → Prop} (hz : z.length = n) (ho : fillOk ti n ps = true) (hX : fillL ti ps z = X) (h : K X) : fillK (structPlace ti) ps z K :=
 fillK_mk hz ho (hX ▸ h)

/-- A store through an address in a row, with what lies there behind it. -/
theorem XUnit.storeTo {P : Program} {tab : Tab} {w0 : World} {R : Nat → Nat → Prop} {av : Nat → Prop} {bs : List (Nat × Nat)} {cs : List (List Value)} (hT : TabOk P tab) {t : TypeId} {ti : TI} (ht : look tab t = some ti) {D : World → Prop} {r1 r2 : List (Nat × Row)} {b k : Nat} {C X : List Value} {v : Value} {p : Addr} {K : KU} (hp : p = ⟨b, k, none⟩)
 (hl : v.cells.toList.length = ti.size) (hone : ∀ u ∈ v.cells.toList, oneCell u = true) (hle : k + ti.size ≤ C.length) (hX : laid C k v.cells.toList = X) (h : K bs cs ⟨D, r1 ++ [(b, Row.c X)] ++ r2⟩) :
 XUnit P w0 R av (Instr.storeAt t (.pointer (some p)) v) bs cs ⟨D, r1 ++ [(b, Row.c C)] ++ r2⟩ K :=
 XUnit.storeIn hT ht hp hl hone hle (hX ▸ h)

theorem next_one {n : Nat} : Builtin.nextslicecap (n + 1) n ≤ n + n / 4 + 600 := by
 unfold Builtin.nextslicecap
 split
 · omega
 · split
   · omega
   · unfold Builtin.growBy
     rw [if_neg (by omega)]
     unfold Builtin.growBy
     rw [if_pos (by omega)]
     omega

/-- append(s, x), s a row of the function's own (or nil), with a closer bound on what is taken. -/
theorem XVal.append1 {P : Program} {tab : Tab} {w0 : World} {R : Nat → Nat → Prop} {av : Nat → Prop} {bs : List (Nat × Nat)} {cs : List (List Value)} (hT : TabOk P tab) {t xt ty : TypeId} {ti tx te : TI} {e xe : TypeId} (ht : look tab t = some ti) (hk : ti.k = .slice e) (hx : look tab xt = some tx) (hxk : tx.k = .slice xe) (he : look tab e = some te)
 (hzl : te.zero.length = te.size) {D : World → Prop} {r1 r2 : List (Nat × Row)} {a p : Option Addr} {n cap cx : Nat} {C L M : List Value} {K : KV} (own : Owg te.size n a cap C L)
 (hM : Sees w0 R av bs cs ⟨D, r1 ++ orow a C ++ r2⟩ p M) (hm : M.length = 1 * te.size) (hone : ∀ v ∈ M, oneCell v = true) (hlen : n + 1 ≤ 4611686018427387904) (hroom : (n + n / 4 + 600) * te.bytes ≤ 2 ^ 48)
 (h : ∀ a' cap' C', Owg te.size (n + 1) a' cap' C' (L ++ M) → K (.slice a' (n + 1) cap') bs cs ⟨D, r1 ++ orow a' C' ++ r2⟩) :
 XVal P w0 R av (Builtin.append_ #[t, xt] ty #[.slice a n cap, .slice p 1 cx]) bs cs ⟨D, r1 ++ orow a C ++ r2⟩ K :=
 XVal.appendG hT ht hk hx hxk he hzl own hM hm hone hlen (fun hc => by
  have := own.fit
  have e : cap = n := by omega
  subst e
  exact Nat.le_trans (Nat.mul_le_mul_right te.bytes next_one) hroom) h

end Go.Sx
namespace Go.Sx
open Go
set_option linter.unusedVariables false
section
variable {P : Program} {tab : Tab} {w0 : World} {R : Nat → Nat → Prop} {av : Nat → Prop}

def posF : List Nat → Nat → Nat → Nat → SV
 | [], _, _, _ => .any
 | x :: xs, i, k, o => match Nat.beq x i with
  | true => .p k o
  | false => posF xs i (k + 1) o

/-- The boxes of a list of numbers are boxes 0, 1, .. from here on. -/
def renP (picks : List Nat) : SV → SV
 | .p i o => posF picks i 0 o
 | .v x => .v x
 | _ => .any

theorem nth_renP {picks : List Nat} : ∀ (l : List SV) (t : Nat), nth .any (l.map (renP picks)) t = renP picks (nth .any l t)
 | [], _ => rfl
 | _ :: _, 0 => rfl
 | _ :: xs, t + 1 => nth_renP xs t

theorem nth_map_at {α β : Type} (d : α) (d' : β) (f : β → α) : ∀ (l : List β) (k : Nat), k < l.length → nth d (l.map f) k = f (nth d' l k)
 | _ :: _, 0, _ => rfl
 | _ :: xs, k + 1, h => nth_map_at d d' f xs k (by simpa using h)

theorem posF_is {i o : Nat} : ∀ (picks : List Nat) (k : Nat), posF picks i k o = .any ∨ ∃ j, j < picks.length ∧ nth 0 picks j = i ∧ posF picks i k o = .p (k + j) o
 | [], _ => .inl rfl
 | x :: xs, k => by
  unfold posF
  cases hb : Nat.beq x i with
  | true => exact .inr ⟨0, by simp, Nat.eq_of_beq_eq_true hb, rfl⟩
  | false =>
   rcases posF_is (i := i) (o := o) xs (k + 1) with h | ⟨j, h1, h2, h3⟩
   · exact .inl h
   · exact .inr ⟨j + 1, by simpa using h1, h2, by dsimp only; rw [h3]; congr 1; omega⟩

theorem FrameOk.renP {bs : List (Nat × Nat)} {tm : List SV} {a : Array Value} {picks : List Nat} (h : FrameOk bs tm a) : FrameOk (picks.map (nth (0, 0) bs)) (tm.map (renP picks)) a := by
 refine ⟨by rw [List.length_map]; exact h.len, fun t => ?_⟩
 rw [nth_renP]
 have ho := h.ok t
 cases hs : nth SV.any tm t with
 | v x => rw [hs] at ho; exact ho
 | any => exact trivial
 | g c p x => exact trivial
 | p i o =>
  rw [hs] at ho
  obtain ⟨h1, h2⟩ := ho
  show SVok _ (posF picks i 0 o) _
  rcases posF_is (i := i) (o := o) picks 0 with h3 | ⟨j, h3, h4, h5⟩
  · rw [h3]
    exact trivial
  · rw [h5, Nat.zero_add]
    refine ⟨?_, by simpa using h3⟩
    rw [h1]
    unfold ptr
    rw [nth_map_at (0, 0) 0 (nth (0, 0) bs) picks j h3, h4]

theorem Boxes.picks {w : World} {bs : List (Nat × Nat)} {cs : List (List Value)} (h : Boxes w bs cs) : ∀ picks : List Nat, (∀ k ∈ picks, k < cs.length) → Boxes w (picks.map (nth (0, 0) bs)) (picks.map (nth [] cs))
 | [], _ => trivial
 | k :: ks, hk => ⟨(Boxes.get h k (hk k (by simp))).1, Boxes.picks h ks fun j hj => hk j (by simp [hj])⟩

theorem nodup_inj {bs : List (Nat × Nat)} (h : (bs.map (·.1)).Nodup) {i j : Nat} (hi : i < bs.length) (hj : j < bs.length) (he : (nth (0, 0) bs i).1 = (nth (0, 0) bs j).1) : i = j := by
 have := (List.getElem?_inj (l := bs.map (·.1)) (i := i) (j := j) (by simpa using hi) h).1
 apply this
 rw [List.getElem?_map, List.getElem?_map, List.getElem?_eq_getElem hi, List.getElem?_eq_getElem hj]
 rw [nth_eq, nth_eq, List.getElem?_eq_getElem hi, List.getElem?_eq_getElem hj] at he
 simpa using he

theorem picks_nodup {bs : List (Nat × Nat)} (h : (bs.map (·.1)).Nodup) : ∀ picks : List Nat, picks.Nodup → (∀ k ∈ picks, k < bs.length) → ((picks.map (nth (0, 0) bs)).map (·.1)).Nodup
 | [], _, _ => by simp
 | k :: ks, hn, hk => by
  rw [List.nodup_cons] at hn
  simp only [List.map_cons, List.nodup_cons]
  refine ⟨fun hm => ?_, picks_nodup h ks hn.2 fun j hj => hk j (by simp [hj])⟩
  rw [List.map_map, List.mem_map] at hm
  obtain ⟨j, hj, he⟩ := hm
  have := nodup_inj h (hk j (by simp [hj])) (hk k (by simp)) he
  subst this
  exact hn.1 hj

theorem St.picks {w : World} {bs : List (Nat × Nat)} {cs : List (List Value)} {D : Fx} (h : St w0 R av w bs cs D) (picks : List Nat) (hn : picks.Nodup) (hk : ∀ k ∈ picks, k < bs.length) :
 St w0 R av w (picks.map (nth (0, 0) bs)) (picks.map (nth [] cs)) D := by
 have hlen := h.box.len
 refine ⟨h.keep, Boxes.picks h.box picks (by rw [hlen]; exact hk), ?_, fun i hi => ?_, h.avlt, h.rows, h.data.less fun b hb => ?_⟩
 · have hnd := h.nd
   rw [List.nodup_append] at hnd ⊢
   refine ⟨picks_nodup hnd.1 picks hn hk, hnd.2.1, fun x hx y hy => ?_⟩
   refine hnd.2.2 x ?_ y hy
   rw [List.map_map, List.mem_map] at hx
   obtain ⟨k, hk', rfl⟩ := hx
   exact List.mem_map.2 ⟨_, mem_nth (hk k hk'), rfl⟩
 · rw [List.length_map] at hi
   rw [nth_map_at (0, 0) 0 _ _ _ hi, nth_map_at [] 0 _ _ _ hi]
   refine h.own _ (hk _ ?_)
   rw [nth_eq, List.getElem?_eq_getElem hi]
   exact List.getElem_mem hi
 · rcases hb with hb | ⟨x, hx, rfl⟩ | hb
   · exact .inl hb
   · obtain ⟨k, hk', rfl⟩ := List.mem_map.1 hx
     exact .inr (.inl ⟨_, mem_nth (hk k hk'), rfl⟩)
   · exact .inr (.inr hb)

def cutE {ι : Type} (I : ι → Prop) (tmI : ι → List SV) (csI : ι → List (List Value)) (DI : ι → Fx) (K : Exit → KT) : Exit → KT :=
 fun e tm' bs' cs' D' => match e with
  | .normal => ∃ i, I i ∧ ∃ picks : List Nat, (picks.Nodup ∧ (∀ k ∈ picks, k < bs'.length) ∧ picks.map (nth [] cs') = csI i) ∧ FLe (tm'.map (renP picks)) (tmI i) ∧ Ent D' (DI i)
  | e => K e tm' bs' cs' D'

/-- A function's code is cut in two: what is known between. -/
theorem XStop.cut (hT : TabOk P tab) {ι : Type} {a b : Code} {tm : List SV} {bs : List (Nat × Nat)} {cs : List (List Value)} {D : Fx} {K : Exit → KT} (I : ι → Prop) (tmI : ι → List SV) (csI : ι → List (List Value)) (DI : ι → Fx)
 (h1 : xc P tab w0 R av a tm bs cs D (cutE I tmI csI DI K)) (h2 : ∀ i, I i → ∀ bs', bs'.length = (csI i).length → XStop P w0 R av b (tmI i) bs' (csI i) (DI i) K) : XStop P w0 R av (.seq a b) tm bs cs D K := by
 refine XStop_iff.2 fun x w hf hst => ?_
 refine wp_seq (wp_mono (xc_sound hT a _ _ _ _ _ _ _ h1 hf hst) ?_)
 rintro e act w' ⟨hd, tm', bs', cs', D', g1, g2, g3⟩
 rw [act_eta hd]
 cases e with
 | normal =>
  obtain ⟨i, hI, picks, ⟨p1, p2, p3⟩, hfl, hE⟩ := g3
  have hfr := hfl.ok (g1.renP (picks := picks))
  have hst' := (g2.picks picks p1 p2).ent hE
  rw [p3] at hst'
  have := h2 i hI (picks.map (nth (0, 0) bs')) (by rw [← p3]; simp)
  exact XStop_iff.1 this _ _ hfr hst'
 | _ => exact ⟨rfl, tm', bs', cs', D', g1, g2, g3⟩

theorem XStop.of_xc (hT : TabOk P tab) {c : Code} {tm : List SV} {bs : List (Nat × Nat)} {cs : List (List Value)} {D : Fx} {K : Exit → KT} (h : xc P tab w0 R av c tm bs cs D K) : XStop P w0 R av c tm bs cs D K :=
 XStop_iff.2 fun a w hf hst => xc_sound hT c _ _ _ _ _ _ _ h hf hst

theorem PureSpec.of_stop (hT : TabOk P tab) {f : FuncId} {fn : Func} (hfn : P.funcs[f]? = some fn) {c : Code} (hb : fn.body = some c) (hnm : (fn.name == "runtime.NumGoroutine") = false) {vs : List Value}
 {n : Nat} (hn : fn.ntmps = vs.length + n) {Pre : World → Prop} {Rel : Value → Fx → Prop}
 (h : ∀ w0 av, XStop P w0 (fun _ _ => False) av c (vs.map SV.v ++ List.replicate n .any) [] [] ⟨Pre, []⟩ (kEnd tab fn.results.toList (pureFin Rel))) : PureSpec P f vs Pre Rel := by
 unfold PureSpec
 refine ⟨⟨fn, hfn, by rw [hb]; rfl, hnm⟩, fun av w hav hpre => ?_⟩
 have hst : St w (fun _ _ => False) av w [] [] ⟨Pre, []⟩ :=
  ⟨KeepX.refl _ _, trivial, by simp, fun i hi => by simp at hi, hav, fun r hr => by simp at hr, hpre.less fun b hb => hb.elim id (fun h => h.elim (fun ⟨x, hx, _⟩ => by simp at hx) (fun ⟨x, hx, _⟩ => by simp at hx))⟩
 refine calls_of_wp hfn hb ?_
 have hfr : FrameOk [] (vs.map SV.v ++ List.replicate n .any) (vs.toArray ++ Array.replicate (fn.ntmps - vs.toArray.size) undef) := by
  refine ⟨by simp; omega, fun t => ?_⟩
  rw [nth_eq]
  by_cases ht : t < vs.length
  · rw [List.getElem?_append_left (by simpa using ht), List.getElem?_map, List.getElem?_eq_getElem ht]
    have e : (vs.toArray ++ Array.replicate (fn.ntmps - vs.toArray.size) undef).getD t undef = vs[t] := by
     rw [Array.getD_eq_getD_getElem?, Array.getElem?_append_left (by simpa using ht)]
     simp [ht]
    rw [e]
    exact rfl
  · have : (vs.map SV.v ++ List.replicate n SV.any)[t]?.getD .any = .any := by
     rw [List.getElem?_append_right (by simp; omega), List.getElem?_replicate]
     split <;> rfl
    rw [this]
    exact trivial
 refine wp_mono (XStop_iff.1 (h w av) _ _ hfr hst) ?_
 rintro e act w' ⟨hd, tm', bs', cs', D', h1, h2, h3⟩
 have fin : pureFin Rel = pureFin Rel := rfl
 cases e with
 | normal =>
  obtain ⟨v, g1, F2, g2, g3⟩ := run_results hT h1 h2.box (fun r hr => (h2.rows r hr).1) h3
  exact ⟨hd, v, g1, v, F2, rfl, h2.keep, (h2.ent g2).fx fun _ => ⟨0, id⟩, g3⟩
 | ret =>
  obtain ⟨v, g1, F2, g2, g3⟩ := run_results hT h1 h2.box (fun r hr => (h2.rows r hr).1) h3
  exact ⟨hd, v, g1, v, F2, rfl, h2.keep, (h2.ent g2).fx fun _ => ⟨0, id⟩, g3⟩
 | _ => exact h3.elim

def sFst : Code → Code
 | .seq a _ => a
 | c => c
def sSnd : Code → Code
 | .seq _ b => b
 | c => c
/-- The code behind the first n parts. -/
def cTail : Nat → Code → Code
 | 0, c => c
 | n + 1, c => cTail n (sSnd c)

/-- The first n parts of a code, and what is to hold behind them. -/
def xcN (P : Program) (tab : Tab) (w0 : World) (R : Nat → Nat → Prop) (av : Nat → Prop) : Nat → Code → List SV → List (Nat × Nat) → List (List Value) → Fx → (Exit → KT) → KT → Prop
 | 0, _, tm, bs, cs, D, _, M => M tm bs cs D
 | n + 1, .seq a b, tm, bs, cs, D, K, M => xc P tab w0 R av a tm bs cs D fun e tm bs cs D => match e with
  | .normal => xcN P tab w0 R av n b tm bs cs D K M
  | e => K e tm bs cs D
 | _ + 1, _, _, _, _, _, _, _ => False

def cutM {ι : Type} (I : ι → Prop) (tmI : ι → List SV) (csI : ι → List (List Value)) (DI : ι → Fx) : KT := fun tm' bs' cs' D' =>
 ∃ i, I i ∧ ∃ picks : List Nat, (picks.Nodup ∧ (∀ k ∈ picks, k < bs'.length) ∧ picks.map (nth [] cs') = csI i) ∧ FLe (tm'.map (renP picks)) (tmI i) ∧ Ent D' (DI i)

theorem XStop.ofN (hT : TabOk P tab) {K : Exit → KT} {M : KT} : ∀ (n : Nat) (c : Code) (tm : List SV) (bs : List (Nat × Nat)) (cs : List (List Value)) (D : Fx), xcN P tab w0 R av n c tm bs cs D K M →
 (∀ tm' bs' cs' D', M tm' bs' cs' D' → XStop P w0 R av (cTail n c) tm' bs' cs' D' K) → XStop P w0 R av c tm bs cs D K
 | 0, c, tm, bs, cs, D, h, hM => hM _ _ _ _ h
 | n + 1, c, tm, bs, cs, D, h, hM => by
  cases c with
  | seq a b =>
   refine XStop_iff.2 fun x w hf hst => ?_
   refine wp_seq (wp_mono (xc_sound hT a _ _ _ _ _ _ _ h hf hst) ?_)
   rintro e act w' ⟨hd, tm', bs', cs', D', g1, g2, g3⟩
   rw [act_eta hd]
   cases e with
   | normal => exact XStop_iff.1 (XStop.ofN hT n b tm' bs' cs' D' g3 hM) _ _ g1 g2
   | _ => exact ⟨rfl, tm', bs', cs', D', g1, g2, g3⟩
  | _ => exact h.elim

/-- A function's code is cut behind its first n parts: what is known there. -/
theorem XStop.cutN (hT : TabOk P tab) (n : Nat) {ι : Type} {c : Code} {tm : List SV} {bs : List (Nat × Nat)} {cs : List (List Value)} {D : Fx} {K : Exit → KT} (I : ι → Prop) (tmI : ι → List SV) (csI : ι → List (List Value)) (DI : ι → Fx)
 (h1 : xcN P tab w0 R av n c tm bs cs D K (cutM I tmI csI DI)) (h2 : ∀ i, I i → ∀ bs', bs'.length = (csI i).length → XStop P w0 R av (cTail n c) (tmI i) bs' (csI i) (DI i) K) : XStop P w0 R av c tm bs cs D K := by
 refine XStop.ofN hT n c tm bs cs D h1 fun tm' bs' cs' D' hM => ?_
 obtain ⟨i, hI, picks, ⟨p1, p2, p3⟩, hfl, hE⟩ := hM
 refine XStop_iff.2 fun x w hf hst => ?_
 have hfr := hfl.ok (hf.renP (picks := picks))
 have hst' := (hst.picks picks p1 p2).ent hE
 rw [p3] at hst'
 exact XStop_iff.1 (h2 i hI (picks.map (nth (0, 0) bs')) (by rw [← p3]; simp)) _ _ hfr hst'

/-- A row becomes a box. -/
theorem XStop.rowBox {c : Code} {tm : List SV} {bs : List (Nat × Nat)} {cs : List (List Value)} {D : World → Prop} {r1 r2 : List (Nat × Row)} {b : Nat} {C : List Value} {K : Exit → KT} {j : Nat} (hj : nth .any tm j = .v (.pointer (some ⟨b, 0, none⟩)))
 (h : XStop P w0 R av c (tm.set j (.p bs.length 0)) (bs ++ [(b, 0)]) (cs ++ [C]) ⟨D, r1 ++ r2⟩ K) : XStop P w0 R av c tm bs cs ⟨D, r1 ++ [(b, Row.c C)] ++ r2⟩ K := by
 refine XStop_iff.2 fun a w hf hst => ?_
 have hrow := hst.rows (b, Row.c C) (by simp)
 obtain ⟨⟨e, hb⟩, hown⟩ := hrow
 dsimp only at hb hown
 have hlen := hst.box.len
 have hst' : St w0 R av w (bs ++ [(b, 0)]) (cs ++ [C]) ⟨D, r1 ++ r2⟩ := by
  refine ⟨hst.keep, Boxes.snoc ⟨C.toArray, e, hb, fun j hj => by simp⟩ hst.box, ?_, fun i hi => ?_, hst.avlt, fun r hr => hst.rows r ?_, hst.data.less fun k hk => ?_⟩
  · have hnd := hst.nd
    have hp : (bs.map Prod.fst ++ (r1 ++ [(b, Row.c C)] ++ r2).map Prod.fst).Perm ((bs ++ [(b, 0)]).map Prod.fst ++ (r1 ++ r2).map Prod.fst) := by
     simp only [List.map_append, List.map_cons, List.map_nil, List.append_assoc]
     refine List.Perm.append_left _ ?_
     have h1 := List.perm_append_comm (l₁ := r1.map Prod.fst) (l₂ := [b])
     have h2 := h1.append_right (r2.map Prod.fst)
     simp
    exact hp.nodup_iff.1 hnd
  · by_cases hb' : i < bs.length
    · have := hst.own i hb'
      rw [nth_append_left _ _ _ _ hb', nth_append_left _ _ _ _ (by omega)]
      exact this
    · have hie : i = bs.length := by simp at hi; omega
      have e1 : nth (0, 0) (bs ++ [(b, 0)]) i = (b, 0) := by rw [hie, nth_eq]; simp
      rw [e1]
      rcases hown with ho | ⟨_, ho, _⟩
      · exact .inl ho
      · exact .inr fun j _ => ho _
  · simp only [List.mem_append, List.mem_singleton] at hr ⊢
    rcases hr with hr | hr
    · exact .inl (.inl hr)
    · exact .inr hr
  · rcases hk with hk | ⟨x, hx, rfl⟩ | ⟨r, hr, rfl⟩
    · exact .inl hk
    · rcases List.mem_append.1 hx with hx | hx
      · exact .inr (.inl ⟨x, hx, rfl⟩)
      · obtain rfl := List.mem_singleton.1 hx
        exact .inr (.inr ⟨(b, Row.c C), by simp, rfl⟩)
    · refine .inr (.inr ⟨r, ?_, rfl⟩)
      simp only [List.mem_append] at hr ⊢
      rcases hr with hr | hr
      · exact .inl (.inl hr)
      · exact .inr hr
 refine XStop_iff.1 h a w ⟨by rw [List.length_set]; exact hf.len, fun t => ?_⟩ hst'
 have ho := hf.ok t
 by_cases ht : t = j
 · subst ht
   rw [hj] at ho
   by_cases hl : t < tm.length
   · have e1 : nth SV.any (tm.set t (.p bs.length 0)) t = .p bs.length 0 := by rw [nth_eq]; simp [hl]
     rw [e1]
     refine ⟨?_, by simp⟩
     have ho : a.getD t undef = .pointer (some ⟨b, 0, none⟩) := ho
     rw [ho]
     unfold ptr
     have : nth (0, 0) (bs ++ [(b, 0)]) bs.length = (b, 0) := by rw [nth_eq]; simp
     rw [this]
   · rw [nth_eq] at hj
     rw [List.getElem?_eq_none (by omega)] at hj
     cases hj
 · have e1 : nth SV.any (tm.set j (.p bs.length 0)) t = nth SV.any tm t := by rw [nth_eq, nth_eq, List.getElem?_set_ne (Ne.symm ht)]
   rw [e1]
   cases hs : nth SV.any tm t with
   | v x => rw [hs] at ho; exact ho
   | any => exact trivial
   | p i o =>
    rw [hs] at ho
    obtain ⟨h1, h2⟩ := ho
    refine ⟨?_, by simp; omega⟩
    rw [h1]
    unfold ptr
    rw [nth_append_left _ _ _ _ h2]
   | g c0 p0 x =>
    rw [hs] at ho
    have key : ∀ (x : SV) (y : Value), SVok bs x y → SVok (bs ++ [(b, 0)]) x y := by
     intro x
     induction x with
     | v z => exact fun y h => h
     | any => exact fun y h => trivial
     | p i o => exact fun y h => ⟨by rw [h.1]; unfold ptr; rw [nth_append_left _ _ _ _ h.2], by have := h.2; simp; omega⟩
     | g c p x ih => exact fun y h hc => ih y (h hc)
    exact key _ _ ho

theorem cTail_add (m n : Nat) (c : Code) : cTail n (cTail m c) = cTail (m + n) c := by
 induction m generalizing c with
 | zero => rw [Nat.zero_add]; rfl
 | succ m ih =>
  rw [show m + 1 + n = (m + n) + 1 from by omega]
  exact ih (sSnd c)

end
end Go.Sx
