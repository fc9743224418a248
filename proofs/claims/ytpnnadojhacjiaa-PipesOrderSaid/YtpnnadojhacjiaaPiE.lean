/- Pipes, part E: settle. -/
import Derived.Test.YtpnnadojhacjiaaPiD
import Derived.Test.YtpnnadojhacjiaaSyC
namespace Go.Proofs.Ytpnnadojhacjiaa
open Go Go.Sx
set_option maxRecDepth 100000
set_option maxHeartbeats 4000000
set_option linter.unusedVariables false
set_option linter.unusedSimpArgs false

structure An where
  task : Int
  res : Int
  data : List UInt8

def An.cells (a : An) (h : Hd) : List Value := [.int .i64 a.task, .int .i64 a.res, h.v a.data.length]
def anCells (l : List (An × Hd)) : List Value := l.flatMap fun p => p.1.cells p.2
def AnAt (w : World) (h : Hd) (l : List (An × Hd)) : Prop := RowAt w h.a (anCells l) ∧ ∀ p ∈ l, By w p.2 p.1.data
def AnOk (l : List (An × Hd)) : Prop := ∀ p ∈ l, p.2.Ok p.1.data.length

theorem anCells_len (l : List (An × Hd)) : (anCells l).length = l.length * 3 := by
  induction l with
  | nil => rfl
  | cons p l ih =>
    have e : anCells (p :: l) = p.1.cells p.2 ++ anCells l := rfl
    rw [e, List.length_append, ih, List.length_cons]
    simp [An.cells]
    omega

theorem an_one (a : An) (k : Hd) : ∀ v ∈ a.cells k, oneCell v = true := by simp [An.cells, oneCell]
theorem an_sz (a : An) (k : Hd) : ∀ v ∈ [Value.agg ⟨a.cells k⟩], v.cells.toList.length = 3 := by simp [An.cells, Value.cells]
theorem anCells_snoc (l : List (An × Hd)) (a : An) (k : Hd) : anCells (l ++ [(a, k)]) = anCells l ++ a.cells k := by simp [anCells]

/-- The request at a place. -/
def Pipe.at (p : Pipe) (i : Nat) : Req := p.wait.getD i ⟨0, false, 0, []⟩

/-- A reading proceeds. -/
def Pipe.read (p : Pipe) : Pipe × An :=
  let i := (first p false).toNat
  let r := p.at i
  let n := (min r.n.toNat p.buf.length)
  ({ p with wait := p.wait.eraseIdx i, buf := p.buf.drop n }, ⟨r.task, n, p.buf.take n⟩)

/-- A writing proceeds. -/
def Pipe.write (p : Pipe) : Pipe × An :=
  let i := (first p true).toNat
  let r := p.at i
  if iEq p.rd 0 then ({ p with wait := p.wait.eraseIdx i }, ⟨r.task, -17, []⟩)
  else ({ p with wait := p.wait.eraseIdx i, buf := p.buf ++ r.data }, ⟨r.task, r.data.length, []⟩)

def settleN : Nat → Pipe → List An → Pipe × List An
  | 0, p, l => (p, l)
  | n + 1, p, l => if p.reads then settleN n p.read.1 (l ++ [p.read.2]) else if p.writes then settleN n p.write.1 (l ++ [p.write.2]) else (p, l)

def Pipe.settle (p : Pipe) : Pipe × List An := settleN p.wait.length p []

theorem settleN_done {p : Pipe} (h1 : p.reads = false) (h2 : p.writes = false) (l : List An) : ∀ n, settleN n p l = (p, l)
  | 0 => rfl
  | n + 1 => by simp [settleN, h1, h2]

def OP.ph (o : OP) : PH := ⟨⟨o.ba, o.bc⟩, ⟨o.wa, o.wc⟩, o.l⟩

theorem OP.phOk {o : OP} {p : Pipe} (h : o.Ok p) : o.ph.Ok p := ⟨⟨h.b.none_nil, h.b.fit⟩, ⟨h.w.none_nil, h.w.fit⟩, h.l, h.d⟩

theorem PH.loc (h : PH) (p : Pipe) : Sx.Loc (h.By p) := fun w w' hw hb =>
  ⟨Sx.Loc.row _ _ w w' hw hb.b, Sx.Loc.row _ _ w w' hw hb.r.1, fun q hq => Sx.Loc.row _ _ w w' hw (hb.r.2 q hq)⟩

/-- The rows of a pipe, with others behind them: what lies there. -/
theorem OP.sees {w0 : World} {R : Nat → Nat → Prop} {av : Nat → Prop} {bs : List (Nat × Nat)} {cs : List (List Value)} {D : World → Prop} {o : OP} {p : Pipe} {rs : List (Nat × Row)} (ho : o.Ok p) (hD : ∀ w, D w → o.D w)
    {w : World} (hst : St w0 R av w bs cs ⟨D, o.rs ++ rs⟩) : o.ph.By p w := by
  have h1 : St w0 R av w bs cs ⟨D, [] ++ orow o.ba o.bC ++ (orow o.wa o.wC ++ rs)⟩ := by simpa [OP.rs] using hst
  have h2 : St w0 R av w bs cs ⟨D, orow o.ba o.bC ++ orow o.wa o.wC ++ rs⟩ := hst
  exact ⟨ho.b.at h1, ho.w.at h2, hD w hst.now⟩

theorem take_call {w0 : World} {R : Nat → Nat → Prop} {av : Nat → Prop} {x1 x2 : Nat × Nat} {c1 c2 : List Value} {b3 : Nat} {D : World → Prop} {r1 r2 : List (Nat × Row)} {wb wc : Nat} {wC : List Value} {l : List (Req × Hd)} {k : Nat} {vb vr vw va : Value} {K : KV}
    (hO : Own 4 l.length (some ⟨wb, 0, none⟩) wc wC (reqCells l)) (hk : k < l.length) (hl : l.length ≤ 100000)
    (h : ∀ C', Own 4 (l.eraseIdx k).length (some ⟨wb, 0, none⟩) wc C' (reqCells (l.eraseIdx k)) →
      K (.agg ⟨l[k].1.cells l[k].2⟩) [x1, x2, (b3, 0)] [c1, c2, [vb, vr, vw, .slice (some ⟨wb, 0, none⟩) (l.eraseIdx k).length wc, va]] ⟨D, r1 ++ [(wb, Row.c C')] ++ r2⟩) :
    XCall Try.prog w0 R av 50 [.pointer (some ⟨b3, 0 + 0, none⟩), .int .i64 (k : Int)] [x1, x2, (b3, 0)] [c1, c2, [vb, vr, vw, .slice (some ⟨wb, 0, none⟩) l.length wc, va]] ⟨D, r1 ++ [(wb, Row.c wC)] ++ r2⟩ K := by
  refine XCall.inlineD tabOk Try.func50 rfl (by decide) (n := Try.f50.ntmps - 2) [.p 2 0, .v (.int .i64 (k : Int))] rfl (by exact ⟨⟨rfl, by simp⟩, rfl, trivial⟩) ?_
  refine padK_mk ?_
  refine xc_alloc1 (e := 51) rfl ?_
  conv => whnf
  intro b4
  conv => whnf
  refine XVal.of_read (XRead.index tabOk (t := 26) rfl rfl rfl (by omega) (by omega) (fun h => by cases h) fun ad had => ?_)
  cases had
  conv => whnf
  refine XVal.of_read (XRead.loads tabOk (t := 51) rfl rfl (ad := ⟨wb, 0, none⟩) (k := k * 4) (L := reqCells l) (fun w hst => hO.at (r1 := r1) (r2 := r2) hst) rfl (reqCells_get l hk) rfl ?_)
  conv => whnf
  intro b5
  conv => whnf
  rw [wrap_i64 (n := (k : Int) + 1) (by omega)]
  refine delete_call rfl hO hk hl fun C' hO' => ?_
  conv => whnf
  exact ⟨⟨[(b4, 0), (b5, 0)], [c1, c2, [vb, vr, vw, .slice (some ⟨wb, 0, none⟩) (l.eraseIdx k).length wc, va]], [l[k].1.cells l[k].2, l[k].1.cells l[k].2], _, rfl, rfl, rfl, Ent.refl _, h C' hO'⟩⟩

theorem read_call {w0 : World} {R : Nat → Nat → Prop} {av : Nat → Prop} {x1 x2 : Nat × Nat} {c1 c2 : List Value} {b3 : Nat} {D : World → Prop} {p : Pipe} {o : OP} {la : List (An × Hd)} {aa : Option Addr} {ac : Nat} {aC : List Value} {K : KV}
    (ho : o.Ok p) (hf : p.Few) (hp : ∀ r ∈ p.wait, r.proper = true) (hr : p.reads = true) (hOa : Own 3 la.length aa ac aC (anCells la)) (hla : la.length ≤ 100000) (hD : ∀ w, D w → o.D w)
    (h : ∀ (o' : OP) (kh : Hd) aa' ac' aC', o'.Ok p.read.1 → (∀ q ∈ o'.l, q ∈ o.l) → Own 3 (la.length + 1) aa' ac' aC' (anCells (la ++ [(p.read.2, kh)])) → kh.Ok p.read.2.data.length →
      K (.tuple #[]) [x1, x2, (b3, 0)] [c1, c2, o'.cells p.read.1 ++ [.slice aa' (la.length + 1) ac']] ⟨fun w => D w ∧ By w kh p.read.2.data, o'.rs ++ orow aa' aC'⟩) :
    XCall Try.prog w0 R av 45 [.pointer (some ⟨b3, 0 + 0, none⟩)] [x1, x2, (b3, 0)] [c1, c2, o.cells p ++ [.slice aa la.length ac]] ⟨D, o.rs ++ orow aa aC⟩ K := by
  have hfr : iGe (first p false) 0 = true := by
    unfold Pipe.reads at hr
    simp only [Bool.and_eq_true] at hr
    exact hr.1
  obtain ⟨k, ek, hk⟩ := first_at p false hfr
  have hlen : o.l.length = p.wait.length := by rw [← ho.l]; simp
  have hk' : k < o.l.length := by omega
  have hw := hf.w
  obtain ⟨wb, ewa⟩ := own_some ho.w (by omega)
  have hOw := ho.w
  rw [ewa] at hOw
  refine XCall.inlineD tabOk Try.func45 rfl (by decide) (n := Try.f45.ntmps - 1) [.p 2 0] rfl (by exact ⟨⟨rfl, by simp⟩, trivial⟩) ?_
  conv => whnf
  refine XCall.look (first' p o.ph (OP.phOk ho) hf false) (PH.loc _ _) (fun w hst => OP.sees ho hD hst) ?_
  rw [ek]
  conv => whnf
  refine XCall.ent (F' := ⟨D, orow o.ba o.bC ++ [(wb, Row.c o.wC)] ++ orow aa aC⟩) (Ent.of_le ⟨by simp [OP.rs, ewa, orow], fun _ h => h⟩) ?_
  unfold OP.cells
  rw [ewa]
  refine take_call (va := .slice aa la.length ac) hOw hk' (by omega) fun C' hO' => ?_
  conv => whnf
  intro b4
  conv => whnf
  refine XStop.draw tabOk mixed rfl rfl ?_
  conv => whnf
  have hpw : p.wait[k] = o.l[k].1 := by
    have : p.wait[k]? = (o.l.map (·.1))[k]? := by rw [ho.l]
    simpa [hk, hk'] using this
  have hat : p.at (first p false).toNat = o.l[k].1 := by
    rw [ek]
    simp [Pipe.at, hk, hpw]
  have hrn : 1 ≤ o.l[k].1.n := by
    have h1 := hp o.l[k].1 (by rw [← hpw]; exact List.getElem_mem hk)
    have h2 : o.l[k].1.write = false := by
      rcases idx_range (fun r : Req => r.write == false) p.wait 0 with e | ⟨k2, hk2, e, h3, _⟩
      · have : first p false = -1 := e
        rw [ek] at this
        omega
      · have : first p false = ((0 + k2 : Nat) : Int) := e
        rw [ek] at this
        have e2 : k2 = k := by omega
        subst e2
        rw [← hpw]
        simpa using h3
    simp [Req.proper, h2, iGe_eq] at h1
    omega
  obtain ⟨n0, hn0⟩ : ∃ n0, n0 = min o.l[k].1.n.toNat p.buf.length := ⟨_, rfl⟩
  have en : (if (p.buf.length : Int) < o.l[k].1.n then (p.buf.length : Int) else o.l[k].1.n) = (n0 : Int) := by
    split <;> omega
  have hbl := hf.b
  repeat (first
    | (refine XHeld.same rfl ?_; conv => whnf)
    | (refine XKeep.of ?_; conv => whnf))
  rw [en]
  refine XStop.draw tabOk mixed rfl rfl ?_
  conv => whnf
  refine XRead.slice tabOk (t := 25) rfl rfl rfl (lo := none) (hi := some (n0 : Int)) (mx := none) (k1 := .i64) (k3 := .i64) 0 n0 o.bc rfl rfl rfl (by omega) (by have := ho.b.fit; omega) (Nat.le_refl _) (fun h => by cases h) ?_
  simp only [cutA_zero, Nat.sub_zero]
  conv => whnf
  have ht0 : (p.buf.take n0).length = n0 := by simp; omega
  have sp1 := cloneB_spec ⟨o.ba, o.bc⟩ (p.buf.take n0) (by rw [ht0]; exact ⟨fun e => by have := ho.b.none_nil e; omega, by have := ho.b.fit; dsimp only; omega⟩) (by omega)
  rw [ht0] at sp1
  refine XCall.from sp1 (Sx.Loc.row _ _) (fun w hst => ?_) ?_
  · have h1 := ho.b.at (r1 := []) (r2 := [(wb, Row.c C')] ++ orow aa aC) (by simpa using hst)
    have h2 := h1.take n0
    rw [← List.map_take] at h2
    exact h2
  rintro v F ⟨a2, cp2, C2, rfl, hO2, rfl⟩
  refine ⟨fun _ => trivial, ?_⟩
  conv => whnf
  repeat (first
    | (refine XHeld.same rfl ?_; conv => whnf)
    | (refine XHeld.call rfl ?_; conv => whnf)
    | (refine XKeep.of ?_; conv => whnf))
  refine XVal.build tabOk (t := 32) rfl rfl rfl [.agg ⟨[.int .i64 o.l[k].1.task, .int .i64 (n0 : Int), .slice a2 n0 cp2]⟩] rfl rfl (by simp [Value.cells]) (by decide) fun b5 => ?_
  conv => whnf
  repeat (first
    | (refine XHeld.same rfl ?_; conv => whnf)
    | (refine XHeld.row rfl ?_; conv => whnf)
    | (refine XKeep.of ?_; conv => whnf))
  refine XVal.ent (F' := ⟨D, (orow o.ba o.bC ++ [(wb, Row.c C')]) ++ orow aa aC ++ (orow a2 C2 ++ [(b5, Row.c [.int .i64 o.l[k].1.task, .int .i64 (n0 : Int), .slice a2 n0 cp2])])⟩) (Ent.of_le ⟨by simp [Fx.and, Value.cells], fun w h => h.1⟩) ?_
  refine XVal.append tabOk (t := 32) (xt := 32) rfl rfl rfl rfl rfl rfl (r1 := orow o.ba o.bC ++ [(wb, Row.c C')]) (r2 := orow a2 C2 ++ [(b5, Row.c [.int .i64 o.l[k].1.task, .int .i64 (n0 : Int), .slice a2 n0 cp2])]) (M := [.int .i64 o.l[k].1.task, .int .i64 (n0 : Int), .slice a2 n0 cp2]) hOa (Sees.row (by simp)) rfl (by simp [oneCell]) (by omega) (by simp; omega) fun aa' ac' aC' hOa' => ?_
  conv => whnf
  repeat (first
    | (refine XHeld.same rfl ?_; conv => whnf)
    | (refine XKeep.of ?_; conv => whnf))
  refine XVal.of_read (XRead.slice tabOk (t := 25) rfl rfl rfl (lo := some (n0 : Int)) (hi := none) (mx := none) (k2 := .i64) (k3 := .i64) n0 p.buf.length o.bc rfl rfl rfl (by omega) ho.b.fit (Nat.le_refl _) (fun h => by cases h) ?_)
  conv => whnf
  have hfit := ho.b.fit
  have ht1 : (p.buf.drop n0).length = p.buf.length - n0 := by simp
  have sp2 := cloneB_spec ⟨cutA o.ba n0 o.bc 1, o.bc - n0⟩ (p.buf.drop n0) (by rw [ht1]; exact ⟨fun e => by have := ho.b.none_nil (cutA_none e); omega, by dsimp only; omega⟩) (by omega)
  rw [ht1] at sp2
  refine XCall.from sp2 (Sx.Loc.row _ _) (fun w hst => ?_) ?_
  · have h1 := ho.b.at (r1 := []) (r2 := [(wb, Row.c C')] ++ orow aa' aC' ++ (orow a2 C2 ++ [(b5, Row.c [.int .i64 o.l[k].1.task, .int .i64 (n0 : Int), .slice a2 n0 cp2])])) (by simpa using hst)
    have h2 := h1.cut (l := n0) (hi := p.buf.length) (m := o.bc) (size := 1) ⟨by omega, hfit⟩
    simp only [Nat.mul_one] at h2
    rw [← List.map_drop, List.take_of_length_le (by simp)] at h2
    exact h2
  rintro v F ⟨a3, cp3, C3, rfl, hO3, rfl⟩
  refine ⟨fun _ => trivial, ?_⟩
  conv => whnf
  have er : p.read = ({ p with wait := p.wait.eraseIdx k, buf := p.buf.drop n0 }, ⟨o.l[k].1.task, n0, p.buf.take n0⟩) := by
    unfold Pipe.read
    dsimp only
    rw [hat, ek, ← hn0]
    rfl
  rw [er] at h
  have hh := h ⟨a3, cp3, C3, some ⟨wb, 0, none⟩, o.wc, C', o.l.eraseIdx k⟩ ⟨a2, cp2⟩ aa' ac' aC' ⟨by dsimp only; rw [ht1]; exact hO3, hO', by dsimp only; rw [List.eraseIdx_eq_take_drop_succ, List.map_append, List.map_take, List.map_drop, ho.l, ← List.eraseIdx_eq_take_drop_succ], fun q hq => ho.d q (List.mem_of_mem_eraseIdx hq)⟩ (fun q hq => List.mem_of_mem_eraseIdx hq)
    (by rw [anCells_snoc]; simp only [An.cells, ht0]; exact hOa') (by dsimp only; rw [ht0]; exact ⟨hO2.none_nil, hO2.fit⟩)
  simp only [OP.cells, List.cons_append, List.nil_append, ht1] at hh
  refine ⟨⟨[(b4, 0)], [c1, c2, _], [_], _, rfl, rfl, rfl, ?_, hh⟩⟩
  have s1 : Ent (Fx.and ⟨D, orow o.ba o.bC ++ [(wb, Row.c C')] ++ orow aa' aC' ++ (orow a2 C2 ++ [(b5, Row.c [Value.int IntKind.i64 o.l[k].1.task, Value.int IntKind.i64 (n0 : Int), Value.slice a2 n0 cp2])])⟩ ⟨fun _ => True, orow a3 C3⟩)
      ⟨D, ([(wb, Row.c C')] ++ orow aa' aC') ++ orow a2 C2 ++ orow a3 C3⟩ := by
    refine Ent.of_le ⟨?_, fun w h => h.1⟩
    simp only [Fx.and, List.append_assoc]
    refine (List.Sublist.trans ?_ (List.sublist_append_right _ _))
    refine List.Sublist.append (List.Sublist.refl _) (List.Sublist.append (List.Sublist.refl _) (List.Sublist.append (List.Sublist.refl _) (List.sublist_append_right _ _)))
  refine s1.trans ((Own.share (r1 := [(wb, Row.c C')] ++ orow aa' aC') (r2 := orow a3 C3) hO2 (D := D)).trans ((Ent.perm ?_).trans (Ent.imp fun w h => h)))
  show List.Perm _ (orow a3 C3 ++ orow (some ⟨wb, 0, none⟩) C' ++ orow aa' aC')
  rw [List.append_assoc (orow a3 C3)]
  exact List.perm_append_comm

end Go.Proofs.Ytpnnadojhacjiaa
