/- Parts of the proof: SyA, SyB, SyC, SyD, SyE, SyF, SyG, SyH, SyI, SyJ. -/
import Derived.Test.YtfeoedkmndkbjaaGreatDoorQC
import Derived.MapKept
import Derived.Maps.RangeRun
namespace Go.Sx
open Go
set_option linter.unusedVariables false
variable {P:Program} {aK:fk} {w0:World} {R:Nat→Nat→Prop} {av:Nat→Prop} {bs:List (Nat×Nat)} {cs:List (List Value)} {F:Fx}
structure Dw (bs bs':List (Nat×Nat)) (K:Prop):Prop where
 ext : ∃ e,bs'=bs++e
 rest:K
theorem Dw.of {K:Prop} (e:List (Nat×Nat)) (h:K):Dw bs (bs++e) K:=⟨⟨e,rfl⟩,h⟩
def Bx (bs:List (Nat×Nat)):List SV→List Value→Prop
 | [],[]=>True
 | s::ss,v::vs=>dR bs s v∧Bx bs ss vs
 | _,_=>False
theorem tq : ∀ {svs:List SV} {vs:List Value},Bx bs svs vs→svs.length=vs.length∧∀ i,i<vs.length→dR bs (nth .any svs i) (nth undef vs i)
 | [],[],_=>⟨rfl,fun i h=>by simp at h⟩
 | s::ss,v::vs,h=>by
  obtain⟨h1,h2⟩:=tq h.2
  refine⟨by simp[h1],fun i hi=>?_⟩
  cases i with
  | zero=>exact h.1
  | succ i=>exact h2 i (by simpa using hi)
 | [],_::_,h=>h.elim
 | _::_,[],h=>h.elim
theorem a_.c_ {m:Sem Unit} {K:KU} {F':Fx} (h:aq F F') (k:a_ P w0 R av m bs cs F' K):a_ P w0 R av m bs cs F K:=
 gW.2 fun w hst=>gW.1 k w (h _ _ _ _ _ _ hst)
theorem ij {sz n:Nat} {a:Option Addr} {cap:Nat} {C L:List Value} (h:Own sz n a cap C L) (hn:0<n) : ∃ b,a=some ⟨b,0,none⟩:=by
 rcases h.alt with⟨h1,h2,h3⟩ | ⟨b,h1,_⟩
 · have:=h.fit
   omega
 · exact⟨b,h1⟩
theorem ai.bS (hT:bn P aK) {t:TypeId} {ti:TI} (ht:look aK t=some ti) (hk:ti.k.agg=false) {p ad:Addr} {k:Nat} {L:List Value} {v:Value} {K:Value→Prop}
 (hs:bp w0 R av bs cs F (some ad) L) (hp:ad.spot=none→p=ad.add k) (hv:L[k]? = some v) (h:K v):ai P w0 R av (Instr.loadAt t (.pointer (some p))) bs cs F K:=by
 refine(aQ _ _ _ _).2 ⟨v,fun w hst=>?_,h⟩
 have hr:=hs w hst
 have hlt:k<L.length:=(List.getElem?_eq_some_iff.1 hv).1
 rw[hp (hr.there (ne_of_lt hlt)).1]
 show(loadVar t (ad.add k)).run P w=_
 exact ff (hT _ _ ht) hk (by rw[hr.cell hlt,hv])
theorem St.DU {w:World} (h:St w0 R av w bs cs F):St w0 R av { w with heap:=w.heap.push (.map #[] 0) } bs cs ⟨F.D,F.rs ++ [(w.heap.size,Row.m #[] 0)]⟩:=by
 have hk:fE w { w with heap:=w.heap.push (.map #[] 0) }:=
  d_ rfl rfl rfl (by simp) (fun b hb=>by simp[Array.getElem?_push,Nat.ne_of_lt hb])
 refine(h.kept (F':=⟨fun _=>True,[(w.heap.size,Row.m #[] 0)]⟩) hk ⟨fun r hr=>?_,by simp,.pure trivial⟩).c_ (aq.imp fun w h=>h.1)
 simp at hr
 subst hr
 exact⟨by simp[iq],Nat.le_refl _⟩
theorem aj.makeMap {t:TypeId} {K:KV} (h : ∀ b,K (.map (some b)) bs cs ⟨F.D,F.rs ++ [(b,Row.m #[] 0)]⟩):aj P w0 R av (Instr.makeMap t none) bs cs F K:=
 bT.2 fun w hst=>⟨_,_,[],cs,_,rfl,by rw[List.append_nil];exact hst.DU,by rw[List.append_nil];exact h _⟩
theorem qp {d:TypeDesc} {k e:TypeId} (h:ez d = .map k e):d = .map k e:=by
 cases d<;>simp[ez] at h
 obtain⟨rfl,rfl⟩:=h
 rfl
def laid (C:List Value) (k:Nat) (l:List Value):List Value:=C.take k++l++C.drop (k+l.length)
theorem wo {C l:List Value} {k:Nat} (h:k+l.length≤C.length):(laid C k l).length=C.length:=by
 simp[laid]
 omega
theorem nJ {C l:List Value} {k:Nat} (h:k+l.length≤C.length) (j:Nat):(laid C k l)[j]? = if k≤j∧j<k+l.length then l[j - k]? else C[j]?:=by
 unfold laid
 by_cases hin:k≤j∧j<k+l.length
 · rw[if_pos hin,List.append_assoc,List.getElem?_append_right (by simp;omega),List.getElem?_append_left (by simp;omega)]
   congr 1
   simp
   omega
 · rw[if_neg hin]
   by_cases hlt:j<k
   · rw[List.append_assoc,List.getElem?_append_left (by simp;omega),List.getElem?_take,if_pos hlt]
   · rw[List.getElem?_append_right (by simp;omega),List.getElem?_drop]
     congr 1
     simp
     omega
theorem St.pV {w w':World} {D:World→Prop} {r1 r2:List (Nat×Row)} {b:Nat} {C l:List Value} {k:Nat} (hst:St w0 R av w bs cs ⟨D,r1 ++ [(b,Row.c C)]++r2⟩) (hone : ∀ v∈l,aO v=true) (hle:k+l.length≤C.length) :
 ∃ w',(storeCells ⟨b,k,none⟩ l 0).run P w = .ok () w'∧St w0 R av w' bs cs ⟨D,r1 ++ [(b,Row.c (laid C k l))]++r2⟩:=by
 obtain⟨et,hrow⟩:=(hst.rows (b,Row.c C) (by simp)).1
 obtain⟨w',g1,g2,g3,g4,g5,g6,arr',g7,g8,g9⟩:=eI (P:=P) (b:=b) (o:=k) l 0 w C.toArray et hrow hone (by simpa using hle)
 refine⟨w',g1,hst.putRow (C':=Row.c (laid C k l)) g2 g3 g4 g5 g6 ⟨et,?_⟩ fun l' hl=>⟨⟨_,rfl⟩,et,_,_,hrow,g7,g8⟩⟩
 rw[g7]
 congr 2
 apply Array.ext_getElem?
 intro j
 rw[g9 j]
 simp only[List.getElem?_toArray,Nat.add_zero]
 rw[nJ hle]
theorem a_.cE (hT:bn P aK) {t:TypeId} {ti:TI} (ht:look aK t=some ti) {D:World→Prop} {r1 r2:List (Nat×Row)} {b k:Nat} {C:List Value} {v:Value} {p:Addr} {K:KU} (hp:p=⟨b,k,none⟩)
 (hl:v.cells.toList.length=ti.size) (hone : ∀ u∈v.cells.toList,aO u=true) (hle:k+ti.size≤C.length) (h:K bs cs ⟨D,r1 ++ [(b,Row.c (laid C k v.cells.toList))]++r2⟩) :
 a_ P w0 R av (Instr.storeAt t (.pointer (some p)) v) bs cs ⟨D,r1 ++ [(b,Row.c C)]++r2⟩ K:=by
 subst hp
 refine gW.2 fun w hst=>?_
 obtain⟨i,d,z,h1,h2,h3,h4,h5,-,-,-⟩:=aA (hT _ _ ht)
 obtain⟨w',g1,g2⟩:=St.pV (P:=P) (w':=w) hst hone (by rw[hl];exact hle)
 refine⟨w',[],cs,_,?_,by rw[List.append_nil];exact g2,by rw[List.append_nil];exact h⟩
 show(storeVar t ⟨b,k,none⟩ v).run P w=_
 unfold storeVar
 rw[ag (run_sizeOf h1 w)]
 have : ¬ v.cells.size≠i.size:=by
  have:v.cells.toList.length=v.cells.size:=by simp
  omega
 rw[if_neg this]
 exact g1
end Go.Sx
namespace Go.Sx
open Go
set_option linter.unusedVariables false
variable {P:Program} {aK:fk} {w0:World} {R:Nat→Nat→Prop} {av:Nat→Prop} {bs:List (Nat×Nat)} {cs:List (List Value)} {F:Fx}
def Loc (D:World→Prop):Prop:=∀ w w':World,(∀ b,b<w.heap.size→w'.heap[b]? = w.heap[b]?)→D w→D w'
theorem Loc.row (a:Option Addr) (L:List Value):Loc fun w=>aB w a L:=by
 intro w w' hw h
 cases a with
 | none=>exact h
 | some ad=>
  rcases h with rfl | ⟨h1,arr,e,fz,h2,h3⟩
  · exact .inl rfl
  exact .inr ⟨h1,arr,e,fz,by rw[hw _ (Array.getElem?_eq_some_iff.1 h2).1];exact h2,h3⟩
theorem Loc.and {D E:World→Prop} (h:Loc D) (k:Loc E):Loc fun w=>D w∧E w:=fun w w' hw hd=>⟨h w w' hw hd.1,k w w' hw hd.2⟩
theorem Loc.all {α:Type} {l:List α} {D:α→World→Prop} (h : ∀ x∈l,Loc (D x)):Loc fun w=>∀ x∈l,D x w:=fun w w' hw hd x hx=>h x hx w w' hw (hd x hx)
theorem ak.from {f:FuncId} {vs:List Value} {Pre:World→Prop} {Rel:Value→Fx→Prop} {K:KV} (spec:af P f vs Pre Rel) (hloc:Loc Pre) (hpre : ∀ w,St w0 R av w bs cs F→Pre w)
 (h : ∀ v F',Rel v F'→(∀ w,F'.D w)∧K v bs cs (F.and F')):ak P w0 R av f vs bs cs F K:=by
 unfold af at spec
 refine cQ.2 ⟨spec.1,fun w hst=>?_⟩
 refine(spec.2 (fun _=>False) w (fun _ h=>h.elim) ⟨fun b=>b<w.heap.size,fun b hb=>⟨hb,id⟩,fun w' hw=>hloc w w' hw (hpre w hst)⟩).mono ?_
 rintro e w' ⟨v,F',rfl,h1,h2,h3⟩
 obtain⟨h4,h5⟩:=h v F' h3
 exact⟨v,[],cs,_,rfl,by rw[List.append_nil];exact hst.kept h1 ⟨h2.rows,h2.nd,⟨fun _=>False,fun _ h=>h.elim,fun w _=>h4 w⟩⟩,by rw[List.append_nil];exact h5⟩
theorem ak.look {f:FuncId} {vs:List Value} {Pre:World→Prop} {x:Value} {K:KV} (spec:af P f vs Pre (fun v _=>v=x)) (hloc:Loc Pre) (hpre : ∀ w,St w0 R av w bs cs F→Pre w)
 (h:K x bs cs F):ak P w0 R av f vs bs cs F K:=by
 unfold af at spec
 refine cQ.2 ⟨spec.1,fun w hst=>?_⟩
 refine(spec.2 (fun _=>False) w (fun _ h=>h.elim) ⟨fun b=>b<w.heap.size,fun b hb=>⟨hb,id⟩,fun w' hw=>hloc w w' hw (hpre w hst)⟩).mono ?_
 rintro e w' ⟨v,F',rfl,h1,h2,rfl⟩
 exact⟨_,[],cs,_,rfl,by rw[List.append_nil];exact hst.qD h1,by rw[List.append_nil];exact h⟩
end Go.Sx
namespace Go.Sx
open Go
set_option linter.unusedVariables false
set_option linter.unusedSimpArgs false
variable {P:Program} {aK:fk} {w0:World} {R:Nat→Nat→Prop} {av:Nat→Prop} {bs:List (Nat×Nat)} {cs:List (List Value)}
structure zf (bs bs':List (Nat×Nat)) (cs':List (List Value)) (F':Fx) (K:List (List Value)→Fx→Prop):Prop where
 ext : ∃ e c1 c2 F1,bs'=bs++e∧cs'=c1++c2∧bs.length=c1.length∧aq F' F1∧K c1 F1
theorem ak.Dp {F:Fx} (hT:bn P aK) {f:FuncId} {fn:Func} (hfn:P.funcs[f]? = some fn) {c:Code} (hb:fn.body=some c) (hnm:(fn.name == "runtime.NumGoroutine")=false) {vs:List Value} (svs:List SV)
 {n:Nat} (hn:fn.ntmps=vs.length+n) (hargs:Bx bs svs vs) {K:KV}
 (h:xA svs n fun tm=>xc P aK w0 R av c tm bs cs F (Cm aK fn.results.toList fun v bs' cs' F'=>zf bs bs' cs' F' fun c1 F1=>K v bs c1 F1)):ak P w0 R av f vs bs cs F K:=by
 have h2:ak P w0 R av f vs bs cs F fun v bs' cs' F'=>zf bs bs' cs' F' fun c1 F1=>K v bs c1 F1:=by
  obtain⟨hlen,hok⟩:=tq hargs
  refine cQ.2 ⟨⟨fn,hfn,by rw[hb];rfl,hnm⟩,fun w hst=>?_⟩
  have h:=qh h
  refine calls_of_wp hfn hb ?_
  have hfr:aY bs (svs++List.replicate n .any) (vs.toArray++Array.replicate (fn.ntmps - vs.toArray.size) undef):=by
   refine⟨by simp;omega,fun t=>?_⟩
   rw[bR]
   by_cases ht:t<vs.length
   · rw[List.getElem?_append_left (by omega),← bR]
     have:=hok t ht
     rw[bR undef] at this
     have e:(vs.toArray++Array.replicate (fn.ntmps - vs.toArray.size) undef).getD t undef=(vs[t]?).getD undef:=by
      rw[Array.getD_eq_getD_getElem?,Array.getElem?_append_left (by simpa using ht)]
      simp
     rw[e]
     exact this
   · have:(svs++List.replicate n SV.any)[t]?.getD .any = .any:=by
      rw[List.getElem?_append_right (by omega),List.getElem?_replicate]
      split<;>rfl
     rw[this]
     exact trivial
  refine wp_mono (qY hT c _ _ _ _ _ _ _ h hfr hst) ?_
  rintro e act w' ⟨hd,tm',bs',cs',D',h1,h2,h3⟩
  cases e with
  | normal=>
   obtain⟨v,g1,g2⟩:=iI hT h1 h2.box h3
   obtain⟨x,c1,c2,F1,rfl,q⟩:=g2.ext
   exact⟨hd,v,g1,v,x,cs',D',rfl,h2,g2⟩
  | ret=>
   obtain⟨v,g1,g2⟩:=iI hT h1 h2.box h3
   obtain⟨x,c1,c2,F1,rfl,q⟩:=g2.ext
   exact⟨hd,v,g1,v,x,cs',D',rfl,h2,g2⟩
  | _=>exact h3.elim
 refine cQ.2 ⟨(cQ.1 h2).1,fun w hst=>((cQ.1 h2).2 w hst).mono ?_⟩
 rintro e w' ⟨v,ext,cs',D',rfl,g1,g2⟩
 obtain⟨x,c1,c2,F1,e1,rfl,e2,he,g3⟩:=g2.ext
 exact⟨v,[],c1,F1,rfl,by rw[List.append_nil];exact(g1.left e2).c_ he,by rw[List.append_nil];exact g3⟩
theorem zF : ∀ {n:Nat} {K:List SV→Prop},K (List.replicate n .any)→De n K
 | 0,K,h=>h
 | n+1,K,h=>zF (n:=n) (by simpa [List.replicate_succ] using h)
theorem nG : ∀ {l:List SV} {n:Nat} {K:List SV→Prop},K (l++List.replicate n .any)→xA l n K
 | [],n,K,h=>zF h
 | x::xs,n,K,h=>nG (l:=xs) h
theorem tP {P:Program} {aK:fk} {w0:World} {R:Nat→Nat→Prop} {av:Nat→Prop} {id:Nat} {dst:Option Tmp} {e ty:TypeId} {pos:String} {after:Array Edge} {ti:TI} (ht:look aK e=some ti) (hb:w8 ti=false) {c2:Code} {tm:List SV} {bs:List (Nat×Nat)} {cs:List (List Value)} {D:Fx} {K:Exit→KT}
 (h:B_ dst ti.zero tm bs cs D fun tm bs cs D=>xc P aK w0 R av c2 tm bs cs D K) :
 xc P aK w0 R av (.seq (.region id #[⟨dst,.alloc e,ty,pos,after,none⟩] false) c2) tm bs cs D K:=by
 show(match look aK e with
  | some ti=>match w8 ti with
   | true=>_
   | false=>B_ dst ti.zero tm bs cs D fun tm bs cs D=>xc P aK w0 R av c2 tm bs cs D K
  | none=>_)
 rw[ht]
 simp only[hb]
 exact h
def sI (rows:List (Nat×Row)) (b:Nat):Prop:=∃ r∈rows,r.1=b
def bM (P:Program) (f:FuncId) (vs:List Value) (rows:List (Nat×Row)) (Pre:World→Prop) (Rel:Value→Fx→Prop):Prop:=
 jt P f∧∀ (av:Nat→Prop) (w:World),(∀ b,av b→b<w.heap.size)→(∀ r∈rows,iq w r.1 r.2∧¬ av r.1)→(rows.map (·.1)).Nodup→Holds (fun b=>av b∨sI rows b) w Pre→
  Calls P f vs.toArray w fun e w'=>∃ v F,e = .returned v∧dZ (fun b _=>sI rows b) w w'∧
   (∀ r∈F.rs,iq w' r.1 r.2∧(w.heap.size≤r.1∨(sI rows r.1∧CM r.2)))∧(F.rs.map (·.1)).Nodup∧Holds (fun b=>av b∨sI F.rs b) w' F.D∧Rel v F
theorem bM.aF (hT:bn P aK) {f:FuncId} {fn:Func} (hfn:P.funcs[f]? = some fn) {c:Code} (hb:fn.body=some c) (hnm:(fn.name == "runtime.NumGoroutine")=false) {vs:List Value} {svs:List SV}
 {n:Nat} (hn:fn.ntmps=vs.length+n) (hsv:svs=vs.map SV.v) {rows:List (Nat×Row)} (hc : ∀ r∈rows,CM r.2) {Pre:World→Prop} {Rel:Value→Fx→Prop}
 (h : ∀ w0 av,xA svs n fun tm=>xc P aK w0 (fun b _=>sI rows b) av c tm [] [] ⟨Pre,rows⟩ (Cm aK fn.results.toList (zc Rel))):bM P f vs rows Pre Rel:=by
 subst hsv
 refine⟨⟨fn,hfn,by rw[hb];rfl,hnm⟩,fun av w hav hrows hnd hpre=>?_⟩
 have hst:St w (fun b _=>sI rows b) av w [] [] ⟨Pre,rows⟩:=
  ⟨dZ.refl _ _,trivial,by simpa using hnd,fun i hi=>by simp at hi,hav,fun r hr=>⟨(hrows r hr).1,.inr ⟨(hrows r hr).2,fun _=>⟨r,hr,rfl⟩,hc r hr⟩⟩,
   hpre.less fun b hb=>hb.elim .inl fun h=>h.elim (fun⟨x,hx,_⟩=>by simp at hx) .inr⟩
 refine(ly hT hfn hb hn (by simp) (fun i hi=>?_) hst (h w av)).mono ?_
 · rw[pM SV.v undef .any vs i hi];rfl
 · rintro e w' ⟨v,bs',cs',F,rfl,h1,F2,h2,h3⟩
   have h4:=h1.c_ h2
   refine⟨v,F2,rfl,h4.dB,fun r hr=>⟨(h4.rows r hr).1,(h4.rows r hr).2.imp id fun q=>⟨q.2.1 0,q.2.2⟩⟩,(List.nodup_append.1 h4.nd).2.1,h4.data.less fun b hb=>hb.elim .inl fun h=>.inr (.inr h),h3⟩
attribute [irreducible] bM
theorem ak.rows {f:FuncId} {vs:List Value} {rows:List (Nat×Row)} {Pre:World→Prop} {Rel:Value→Fx→Prop} {D:World→Prop} {r1 r2:List (Nat×Row)} {K:KV} (spec:bM P f vs rows Pre Rel)
 (hpre : ∀ w,D w→Pre w) (h : ∀ v F',Rel v F'→K v bs cs ⟨fun w=>D w∧F'.D w,r1++F'.rs++r2⟩):ak P w0 R av f vs bs cs ⟨D,r1++rows++r2⟩ K:=by
 unfold bM at spec
 refine cQ.2 ⟨spec.1,fun w hst=>?_⟩
 have hnd:=hst.nd
 have hmem : ∀ r,r∈r1++rows++r2↔r∈r1∨r∈rows∨r∈r2:=fun r=>by simp[or_assoc]
 simp only[List.map_append,List.nodup_append,List.mem_append] at hnd
 obtain⟨nb,⟨⟨n1,n0,n10⟩,n2,n12⟩,nbr⟩:=hnd
 have notb : ∀ r∈rows,∀ x∈bs,x.1≠r.1:=fun r hr x hx=>nbr _ (List.mem_map.2 ⟨x,hx,rfl⟩) _ (.inl (.inr (List.mem_map.2 ⟨r,hr,rfl⟩)))
 have not1 : ∀ r∈rows,∀ x∈r1,x.1≠r.1:=fun r hr x hx=>n10 _ (List.mem_map.2 ⟨x,hx,rfl⟩) _ (List.mem_map.2 ⟨r,hr,rfl⟩)
 have not2 : ∀ r∈rows,∀ x∈r2,x.1≠r.1:=fun r hr x hx e=>n12 _ (.inr (List.mem_map.2 ⟨r,hr,rfl⟩)) _ (List.mem_map.2 ⟨x,hx,rfl⟩) e.symm
 have notav : ∀ r∈rows,¬ av r.1:=fun r hr ha=>by
  rcases(hst.rows r ((hmem r).2 (.inr (.inl hr)))).2 with h | h
  · have:=hst.avlt _ ha
    omega
  · exact h.1 ha
 refine(spec.2 (fun b=>av b∨(∃ x∈bs,x.1=b)∨sI r1 b∨sI r2 b) w (fun b hb=>hst.D5 ?_) (fun r hr=>⟨(hst.rows r ((hmem r).2 (.inr (.inl hr)))).1,?_⟩) n0 ?_).mono ?_
 · rcases hb with hb | hb | ⟨r,hr,rfl⟩ | ⟨r,hr,rfl⟩
   · exact .inl hb
   · exact .inr (.inl hb)
   · exact .inr (.inr ⟨r,(hmem r).2 (.inl hr),rfl⟩)
   · exact .inr (.inr ⟨r,(hmem r).2 (.inr (.inr hr)),rfl⟩)
 · rintro(hb | ⟨x,hx,he⟩ | ⟨x,hx,he⟩ | ⟨x,hx,he⟩)
   · exact notav r hr hb
   · exact notb r hr x hx he
   · exact not1 r hr x hx he
   · exact not2 r hr x hx he
 · refine(hst.data.imp hpre).less fun b hb=>?_
   rcases hb with(hb | hb | ⟨r,hr,rfl⟩ | ⟨r,hr,rfl⟩) | ⟨r,hr,rfl⟩
   · exact .inl hb
   · exact .inr (.inl hb)
   · exact .inr (.inr ⟨r,(hmem r).2 (.inl hr),rfl⟩)
   · exact .inr (.inr ⟨r,(hmem r).2 (.inr (.inr hr)),rfl⟩)
   · exact .inr (.inr ⟨r,(hmem r).2 (.inr (.inl hr)),rfl⟩)
 rintro e w' ⟨v,F',rfl,hk,hr',hnd',hd',hrel⟩
 have hsame : ∀ b,b<w.heap.size→¬ sI rows b→w'.heap[b]? = w.heap[b]?:=fun b hb hn=>hk.same hb fun _=>hn
 refine⟨v,[],cs,_,rfl,?_,by rw[List.append_nil];exact h v F' hrel⟩
 rw[List.append_nil]
 have hold : ∀ x,(x∈r1∨x∈r2)→w'.heap[x.1]? = w.heap[x.1]?:=fun x hx=>by
  have hx':x∈r1++rows++r2:=(hmem x).2 (hx.elim .inl fun h=>.inr (.inr h))
  refine hsame _ (hst.rows x hx').1.lt ?_
  rintro⟨r,hr,he⟩
  rcases hx with hx | hx
  · exact not1 r hr x hx he.symm
  · exact not2 r hr x hx he.symm
 have hnew : ∀ r∈F'.rs,(∀ x∈bs,x.1≠r.1)∧(∀ x∈r1,x.1≠r.1)∧(∀ x∈r2,x.1≠r.1):=fun r hr=>by
  rcases(hr' r hr).2 with h1 | ⟨⟨q,hq,he⟩,_⟩
  · refine⟨fun x hx he=>?_,fun x hx he=>?_,fun x hx he=>?_⟩
    · have:=hst.box.lt x hx
      omega
    · have:=(hst.rows x ((hmem x).2 (.inl hx))).1.lt
      omega
    · have:=(hst.rows x ((hmem x).2 (.inr (.inr hx)))).1.lt
      omega
  · rw[← he]
    exact⟨notb q hq,not1 q hq,not2 q hq⟩
 refine⟨⟨hk.os.trans hst.dB.os,hk.tape.trans hst.dB.tape,hk.output.trans hst.dB.output,Nat.le_trans hst.dB.size hk.size,fun b o ho=>?_⟩,hst.box.of_same fun x hx=>hsame _ (hst.box.lt x hx) (fun⟨r,hr,he⟩=>notb r hr x hx he.symm),?_,hst.own,hst.avlt,fun r hr=>?_,Holds.and ?_ ?_⟩
 · obtain⟨o1,g1,s1⟩:=hst.dB.obj b o ho
   obtain⟨o2,g2,s2⟩:=hk.obj b o1 g1
   refine⟨o2,g2,s1.trans (s2.mono fun i hi=>?_)⟩
   obtain⟨r,hr,rfl⟩:=hi
   rcases(hst.rows r ((hmem r).2 (.inr (.inl hr)))).2 with h | h
   · have:=aW ho
     omega
   · exact h.2.1 i
 · simp only[List.map_append,List.nodup_append,List.mem_append]
   refine⟨nb,⟨⟨n1,hnd',?_⟩,n2,?_⟩,?_⟩
   · intro x hx y hy e
     obtain⟨z,hz,rfl⟩:=List.mem_map.1 hx
     obtain⟨r,hr,rfl⟩:=List.mem_map.1 hy
     exact(hnew r hr).2.1 z hz e
   · intro x hx y hy e
     obtain⟨z,hz,rfl⟩:=List.mem_map.1 hy
     rcases hx with hx | hx
     · exact n12 _ (.inl hx) _ hy e
     · obtain⟨r,hr,rfl⟩:=List.mem_map.1 hx
       exact(hnew r hr).2.2 z hz e.symm
   · intro x hx y hy e
     obtain⟨z,hz,rfl⟩:=List.mem_map.1 hx
     rcases hy with(hy | hy) | hy
     · exact nbr _ hx _ (.inl (.inl hy)) e
     · obtain⟨r,hr,rfl⟩:=List.mem_map.1 hy
       exact(hnew r hr).1 z hz e
     · exact nbr _ hx _ (.inr hy) e
 · simp only[List.mem_append] at hr
   rcases hr with(hr | hr) | hr
   · have:=hst.rows r ((hmem r).2 (.inl hr))
     exact⟨this.1.of_same (hold r (.inl hr)),this.2⟩
   · obtain⟨g1,g2⟩:=hr' r hr
     refine⟨g1,?_⟩
     rcases g2 with g2 | ⟨⟨q,hq,he⟩,g3⟩
     · exact .inl (Nat.le_trans hst.dB.size g2)
     · rcases(hst.rows q ((hmem q).2 (.inr (.inl hq)))).2 with g4 | g4
       · exact .inl (by rw[← he];exact g4)
       · exact .inr ⟨by rw[← he];exact g4.1,by rw[← he];exact g4.2.1,g3⟩
   · have:=hst.rows r ((hmem r).2 (.inr (.inr hr)))
     exact⟨this.1.of_same (hold r (.inr hr)),this.2⟩
 · refine hst.data.move hk.size (fun b hb hna=>hsame b hb fun⟨r,hr,he⟩=>hna (.inr (.inr ⟨r,(hmem r).2 (.inr (.inl hr)),he⟩))) fun b hb=>?_
   rcases hb with hb | hb | ⟨r,hr,rfl⟩
   · exact .inl (.inl hb)
   · exact .inl (.inr (.inl hb))
   · simp only[List.mem_append] at hr
     rcases hr with(hr | hr) | hr
     · exact .inl (.inr (.inr ⟨r,(hmem r).2 (.inl hr),rfl⟩))
     · rcases(hr' r hr).2 with g | ⟨⟨q,hq,he⟩,_⟩
       · exact .inr g
       · exact .inl (.inr (.inr ⟨q,(hmem q).2 (.inr (.inl hq)),he⟩))
     · exact .inl (.inr (.inr ⟨r,(hmem r).2 (.inr (.inr hr)),rfl⟩))
 · refine hd'.less fun b hb=>?_
   rcases hb with hb | hb | ⟨r,hr,rfl⟩
   · exact .inl (.inl hb)
   · exact .inl (.inr (.inl hb))
   · simp only[List.mem_append] at hr
     rcases hr with(hr | hr) | hr
     · exact .inl (.inr (.inr (.inl ⟨r,hr,rfl⟩)))
     · exact .inr ⟨r,hr,rfl⟩
     · exact .inl (.inr (.inr (.inr ⟨r,hr,rfl⟩)))
end Go.Sx
namespace Go.Sx
set_option linter.unusedVariables false
section
variable {P:Program} {aK:fk} {w0:World} {av:Nat→Prop} {bs:List (Nat×Nat)} {cs:List (List Value)}
theorem vu {w:World} {t e te:TypeId} {C:Array Value} {b n c:Nat} (ht:P.underlying t=some (.slice e)) (he:P.underlying e=some (.int .u8)) (hb:w.heap[b]? = some (.cells C te (0,0))) :
 (convert t t (.slice (some ⟨b,0,none⟩) n c)).run P w = .ok (.slice (some ⟨b,0,none⟩) n c) (w.freeze ⟨b,C.size,none⟩ 1):=by
 unfold convert
 rw[ag (az ht w),ag (az ht w)]
 simp only
 rw[ag (az he w)]
 have hsh:w.shape? b=some (te,C.size):=by
  unfold World.shape?
  rw[hb]
 have hm:(markStringish ⟨b,0,none⟩).run P w = .ok () (w.freeze ⟨b,C.size,none⟩ 1):=by
  unfold markStringish
  rw[ag (m:=shape b) (a:=some (te,C.size)) (w':=w) (by show Result.ok (w.shape? b) w=_;rw[hsh])]
  rfl
 simp only[beq_self_eq_true]
 rw[ag hm]
 rfl
theorem aj.lit (hT:bn P aK) {t e:TypeId} {ti te:TI} (ht:look aK t=some ti) (hk:ti.k = .slice e) (he:look aK e=some te) (hb8:te.k = .int .u8) {D:World→Prop} {r1 r2:List (Nat×Row)} {b n c:Nat} {C:List Value} {K:KV}
 (h:K (.slice (some ⟨b,0,none⟩) n c) bs cs ⟨fun w=>D w∧aB w (some ⟨b,0,none⟩) C,r1++r2⟩) :
 aj P w0 (fun _ _=>False) av (convert t t (.slice (some ⟨b,0,none⟩) n c)) bs cs ⟨D,r1 ++ [(b,Row.c C)]++r2⟩ K:=by
 refine bT.2 fun w hst=>?_
 obtain⟨i1,d1,z1,p1,p2,p3,p4,p5,p6,p7,p8⟩:=aA (hT _ _ ht)
 obtain⟨i2,d2,z2,q1,q2,q3,q4,q5,q6,q7,q8⟩:=aA (hT _ _ he)
 rw[p4] at hk
 rw[q4] at hb8
 obtain rfl:=cO hk
 obtain rfl:=yM hb8
 have hm:(b,Row.c C)∈r1 ++ [(b,Row.c C)]++r2:=by simp
 obtain⟨⟨et,hb⟩,hown⟩:=hst.rows _ hm
 have hb0:w0.heap.size≤b:=hown.resolve_right fun h=>h.2.1 0
 have hlt:=aW hb
 refine⟨_,_,[],cs,⟨fun w=>D w∧aB w (some ⟨b,0,none⟩) C,r1++r2⟩,vu p2 q2 hb,?_,by rw[List.append_nil];exact h⟩
 rw[List.append_nil]
 have hsh:aq ⟨D,r1 ++ [(b,Row.c C)]++r2⟩ ⟨fun w=>D w∧aB w (some ⟨b,0,none⟩) C,r1++r2⟩:=
  Own.share (sz:=1) (n:=C.length) (cap:=C.length) (a:=some ⟨b,0,none⟩) (r1:=r1) (r2:=r2) (Own.full (by simp))
 have h2:=hst.c_ hsh
 have hnd:=hst.nd
 simp only[List.map_append,List.map_cons,List.map_nil] at hnd
 have hnb : ∀ x∈bs,x.1≠b:=fun x hx he=>by
  rw[List.nodup_append] at hnd
  exact hnd.2.2 x.1 (List.mem_map.2 ⟨x,hx,rfl⟩) b (by simp) he
 have hnr : ∀ r,r∈r1∨r∈r2→r.1≠b:=fun r hr he=>by
  rw[List.nodup_append] at hnd
  have h8:=hnd.2.1
  rw[List.append_assoc,List.nodup_append] at h8
  rcases hr with hr | hr
  · exact h8.2.2 r.1 (List.mem_map.2 ⟨r,hr,rfl⟩) b (by simp) he
  · have:=h8.2.1
    simp only[List.singleton_append,List.nodup_cons] at this
    exact this.1 (List.mem_map.2 ⟨r,hr,he⟩)
 have hsz:(w.freeze ⟨b,C.toArray.size,none⟩ 1).heap.size=w.heap.size:=by
  unfold World.freeze
  rw[if_neg (by decide)]
  simp
 have hoth : ∀ k,k≠b→(w.freeze ⟨b,C.toArray.size,none⟩ 1).heap[k]? = w.heap[k]?:=fun k hk=>by
  unfold World.freeze
  rw[if_neg (by decide)]
  simp only[Array.getElem?_modify]
  rw[if_neg (fun h=>hk h.symm)]
 have hnew : ∃ fz,(w.freeze ⟨b,C.toArray.size,none⟩ 1).heap[b]? = some (.cells C.toArray et fz):=by
  unfold World.freeze
  rw[if_neg (by decide)]
  simp only[Array.getElem?_modify,if_true,hb]
  exact⟨_,rfl⟩
 obtain⟨fz,hnew⟩:=hnew
 have hos:(w.freeze ⟨b,C.toArray.size,none⟩ 1).os=w.os:=by unfold World.freeze;rw[if_neg (by decide)]
 have hta:(w.freeze ⟨b,C.toArray.size,none⟩ 1).tape=w.tape:=by unfold World.freeze;rw[if_neg (by decide)]
 have hou:(w.freeze ⟨b,C.toArray.size,none⟩ 1).output=w.output:=by unfold World.freeze;rw[if_neg (by decide)]
 generalize w.freeze ⟨b,C.toArray.size,none⟩ 1=w' at *
 refine⟨⟨hos.trans hst.dB.os,hta.trans hst.dB.tape,hou.trans hst.dB.output,by rw[hsz];exact hst.dB.size,fun k o ho=>?_⟩,h2.box.of_same fun x hx=>hoth _ (hnb x hx),h2.nd,h2.own,h2.avlt,fun r hr=>?_,?_⟩
 · obtain⟨o',ho',hs⟩:=hst.dB.obj k o ho
   have hlt:=aW ho
   exact⟨o',by rw[hoth k (by omega)];exact ho',hs⟩
 · have:=h2.rows r hr
   exact⟨this.1.of_same (hoth _ (hnr r (by simpa using hr))),this.2⟩
 · have hnav : ¬ Av av bs (r1++r2) b:=by
    rintro(ha | ⟨x,hx,he⟩ | ⟨r,hr,he⟩)
    · have:=hst.avlt b ha
      omega
    · exact hnb x hx he
    · exact hnr r (by simpa using hr) he
   refine Holds.and ?_ (aB.holds (ad:=⟨b,0,none⟩) (.inr ⟨rfl,C.toArray,et,fz,hnew,fun j hj=>by simp⟩) hnav)
   refine hst.data.move (by omega) (fun k hk hna=>hoth k fun he=>hna (.inr (.inr ⟨(b,Row.c C),by simp,he.symm⟩))) (fun k hk=>.inl ?_)
   rcases hk with hk | hk | ⟨r,hr,rfl⟩
   · exact .inl hk
   · exact .inr (.inl hk)
   · rcases List.mem_append.1 hr with hr | hr
     · exact .inr (.inr ⟨r,by simp[hr],rfl⟩)
     · exact .inr (.inr ⟨r,by simp[hr],rfl⟩)
end
end Go.Sx
namespace Go.Sx
set_option linter.unusedVariables false
section
variable {P:Program} {aK:fk} {w0:World} {R:Nat→Nat→Prop} {av:Nat→Prop} {bs:List (Nat×Nat)} {cs:List (List Value)} {F:Fx}
theorem aj.post {m:Sem Value} {K K':KV} (h:aj P w0 R av m bs cs F K') (hk : ∀ v bs' cs' F',K' v bs' cs' F'→∃ F'',aq F' F''∧K v bs' cs' F''):aj P w0 R av m bs cs F K:=by
 refine bT.2 fun w hst=>?_
 obtain⟨v,w',ext,cs',D',h1,h2,h3⟩:=bT.1 h w hst
 obtain⟨F'',he,h4⟩:=hk _ _ _ _ h3
 exact⟨v,w',ext,cs',F'',h1,h2.c_ he,h4⟩
theorem aj.DE (hT:bn P aK) {t xt ty:TypeId} {ti tx te:TI} {e xe:TypeId} (ht:look aK t=some ti) (hk:ti.k = .slice e) (hx:look aK xt=some tx) (hxk:tx.k = .slice xe) (he:look aK e=some te)
 (hzl:te.zero.length=te.size) {a p:Option Addr} {m cx:Nat} {M:List Value} {K:KV} (hM:bp w0 R av bs cs F p M) (hm:M.length=m*te.size) (hlen:m≤4611686018427387904) (hroom:(2*m+1000)*te.bytes≤2 ^ 48)
 (h : ∀ k:Hd,k.Ok m→K (k.v m) bs cs ⟨fun w=>F.D w∧aB w k.a M,F.rs⟩) :
 aj P w0 R av (Builtin.append_ #[t,xt] ty #[.slice a 0 0,.slice p m cx]) bs cs F K:=by
 rcases Nat.eq_zero_or_pos m with h0 | h0
 · have hMn:M = []:=List.eq_nil_of_length_eq_zero (by rw[hm,h0,Nat.zero_mul])
   subst hMn
   have h':=h ⟨a,0⟩ ⟨fun _=>h0,by simp[h0]⟩
   rw[h0] at h'
   refine aj.post (aj.pW hT ht hk hx hxk he (K:=fun v bs' cs' F'=>v = .slice a 0 0∧bs'=bs∧cs'=cs∧F'=F) (Nat.le_refl _) h0 hM ⟨rfl,rfl,rfl,rfl⟩) ?_
   rintro v bs' cs' F' ⟨rfl,rfl,rfl,rfl⟩
   refine⟨⟨fun w=>F'.D w∧aB w a [],F'.rs⟩,aq.of_le ⟨List.Sublist.refl _,fun w hw=>⟨hw,aB.zw _⟩⟩,h'⟩
 · refine aj.post (aj.lK hT ht hk hx hxk he hzl (K:=fun v bs' cs' F'=>∃ b cap' C',Own te.size (0+m) (some ⟨b,0,none⟩) cap' C' ([]++M)∧v = .slice (some ⟨b,0,none⟩) (0+m) cap'∧bs'=bs∧cs'=cs∧F'=⟨F.D,F.rs ++ [(b,Row.c C')]⟩) (L:=[]) (M:=M) (fun w _=>aB.zw _) (by simp) hM hm (by omega) (by omega) (by simpa using hroom) (fun b cap' C' hO=>⟨b,cap',C',hO,rfl,rfl,rfl,rfl⟩)) ?_
   rintro v bs' cs' F' ⟨b,cap',C',hO,rfl,rfl,rfl,rfl⟩
   rw[Nat.zero_add,List.nil_append] at hO
   rw[Nat.zero_add]
   refine⟨_,?_,h ⟨some ⟨b,0,none⟩,cap'⟩ ⟨(fun h=>by cases h),hO.fit⟩⟩
   have:=Own.share hO (r1:=F.rs) (r2:=[]) (D:=F.D)
   simpa [aR] using this
theorem Own.gives {sz n:Nat} {a:Option Addr} {cap:Nat} {C L:List Value} (h:Own sz n a cap C L) {D:World→Prop}:aq ⟨D,aR a C⟩ ⟨fun w=>D w∧aB w a L,[]⟩:=by
 simpa using Own.share h (r1:=[]) (r2:=[]) (D:=D)
end
end Go.Sx
namespace Go.Sx
set_option linter.unusedVariables false
section
variable {P:Program} {aK:fk} {w0:World} {R:Nat→Nat→Prop} {av:Nat→Prop} {bs:List (Nat×Nat)} {cs:List (List Value)} {F:Fx}
theorem zK (l m:List UInt8):(ByteArray.mk ⟨l⟩)++(ByteArray.mk ⟨m⟩)=ByteArray.mk ⟨l++m⟩:=by
 apply ByteArray.ext
 rw[ByteArray.data_append]
 simp
theorem ew (l:List UInt8):(ByteArray.mk ⟨l⟩).size=l.length:=rfl
theorem j3 (l:List UInt8) (a b:Nat):(ByteArray.mk ⟨l⟩).extract a b=ByteArray.mk ⟨(l.drop a).take (b - a)⟩:=by
 apply ByteArray.ext
 rw[ByteArray.data_extract]
 simp[List.extract_eq_take_drop]
theorem ai.oz {t:TypeId} {x y:Operand} {l m:List UInt8} {K:Value→Prop} (hn:l.length+m.length≤9223372036854775807) (h:K (aC (l++m))) :
 ai P w0 R av (do eqGuard .add t x y (aC l) (aC m);binOp .add t (aC l) (aC m)) bs cs F K:=by
 refine(aQ _ _ _ _).2 ⟨_,fun w _=>?_,h⟩
 unfold aC
 rw[ag (iT _ _ _ _ _ _ w)]
 simp only[binOp,Op.stringOp,zK,ew]
 rw[if_neg (by
  have:IntKind.i64.max=9223372036854775807:=by decide
  rw[this];omega)]
 rfl
theorem ai.zr (hT:bn P aK) {t:TypeId} {ti:TI} (ht:look aK t=some ti) (hk:ti.k = .str) {l:List UInt8} {k:IntKind} {n:Int} {K:Value→Prop} (j:Nat) (hj:n=(j:Int)) (hle:j≤l.length) (h:K (aC (l.take j))) :
 ai P w0 R av (Instr.sliceAt t (aC l) none (some (.int k n)) none) bs cs F K:=by
 subst hj
 refine(aQ _ _ _ _).2 ⟨_,fun w _=>?_,h⟩
 obtain⟨i1,d1,z1,p1,p2,p3,p4,p5,p6,p7,p8⟩:=aA (hT _ _ ht)
 rw[p4] at hk
 obtain rfl:=jy hk
 unfold Instr.sliceAt
 rw[ag (az p2 w)]
 simp only
 unfold Instr.slice aC
 rw[ag (az p2 w)]
 simp only[Option.isSome_none,Bool.false_eq_true,if_false,ew]
 unfold Instr.sliceBounds
 simp only[Bool.false_eq_true,if_false]
 rw[ag (show(do
  let m ← (pure l.length:Sem Nat)
  let h ← Instr.sliceBound (.int k (j:Int)) m .sliceAlen
  let l ← (pure 0:Sem Nat)
  pure (l,h,m)).run P w = .ok (0,j,l.length) w from by
   rw[ag (run_pure P _ w),ag (en (by omega) (by omega))]
   rfl)]
 simp only[j3]
 rfl
end
end Go.Sx
namespace Go.Sx
set_option linter.unusedVariables false
set_option linter.unusedSimpArgs false
section
variable {P:Program} {aK:fk} {w0:World} {R:Nat→Nat→Prop} {av:Nat→Prop} {bs:List (Nat×Nat)} {cs:List (List Value)} {F:Fx}
theorem DL (l:List UInt8) (j:Nat):(ByteArray.mk ⟨l⟩)[j]? = l[j]?:=by
 by_cases h:j<l.length
 · have hs:j<(ByteArray.mk ⟨l⟩).size:=h
   rw[List.getElem?_eq_getElem h]
   show(if h:j<(ByteArray.mk ⟨l⟩).size then some ((ByteArray.mk ⟨l⟩)[j]) else none)=_
   rw[dif_pos hs]
   rfl
 · rw[List.getElem?_eq_none (by omega)]
   show(if h:j<(ByteArray.mk ⟨l⟩).size then some ((ByteArray.mk ⟨l⟩)[j]) else none)=_
   rw[dif_neg (show ¬ j<(ByteArray.mk ⟨l⟩).size from h)]
theorem ai.jk (hT:bn P aK) {t:TypeId} {ti:TI} (ht:look aK t=some ti) (hk:ti.k = .str) {l:List UInt8} {k:IntKind} {i:Int} {K:Value→Prop} (j:Nat) (hj:i=(j:Int)) (hlt:j<l.length) (h:K (ao l[j])) :
 ai P w0 R av (Instr.index t (aC l) (.int k i)) bs cs F K:=by
 subst hj
 refine(aQ _ _ _ _).2 ⟨_,fun w _=>?_,h⟩
 obtain⟨i1,d1,z1,p1,p2,p3,p4,p5,p6,p7,p8⟩:=aA (hT _ _ ht)
 rw[p4] at hk
 obtain rfl:=jy hk
 unfold Instr.index aC
 rw[ag (m:=asIntOf _) (a:=(k,(j:Int))) (w':=w) rfl,ag (az p2 w)]
 simp only
 rw[if_pos (by omega),Int.toNat_natCast,DL,List.getElem?_eq_getElem hlt]
 rfl
theorem ai.DH (hT:bn P aK) {t:TypeId} {ti:TI} (ht:look aK t=some ti) (hk:ti.k = .str) {l:List UInt8} {k k':IntKind} {m n:Int} {K:Value→Prop} (a b:Nat) (ha:m=(a:Int)) (hb:n=(b:Int)) (hab:a≤b) (hle:b≤l.length)
 (h:K (aC ((l.drop a).take (b - a)))):ai P w0 R av (Instr.sliceAt t (aC l) (some (.int k m)) (some (.int k' n)) none) bs cs F K:=by
 subst ha hb
 refine(aQ _ _ _ _).2 ⟨_,fun w _=>?_,h⟩
 obtain⟨i1,d1,z1,p1,p2,p3,p4,p5,p6,p7,p8⟩:=aA (hT _ _ ht)
 rw[p4] at hk
 obtain rfl:=jy hk
 unfold Instr.sliceAt
 rw[ag (az p2 w)]
 simp only
 unfold Instr.slice aC
 rw[ag (az p2 w)]
 simp only[Option.isSome_none,Bool.false_eq_true,if_false,ew]
 unfold Instr.sliceBounds
 simp only[Bool.false_eq_true,if_false]
 rw[ag (show(do
  let m ← (pure l.length:Sem Nat)
  let h ← Instr.sliceBound (.int k' (b:Int)) m .sliceAlen
  let l ← Instr.sliceBound (.int k (a:Int)) h .sliceB
  pure (l,h,m)).run P w = .ok (a,b,l.length) w from by
   rw[ag (run_pure P _ w),ag (en (by omega) (by omega)),ag (en (by omega) (by omega))]
   rfl)]
 simp only[j3]
 rfl
theorem ai.y7 (hT:bn P aK) {t:TypeId} {ti:TI} (ht:look aK t=some ti) (hk:ti.k = .str) {l:List UInt8} {k:IntKind} {m:Int} {K:Value→Prop} (a:Nat) (ha:m=(a:Int)) (hle:a≤l.length)
 (h:K (aC (l.drop a))):ai P w0 R av (Instr.sliceAt t (aC l) (some (.int k m)) none none) bs cs F K:=by
 subst ha
 refine(aQ _ _ _ _).2 ⟨_,fun w _=>?_,h⟩
 obtain⟨i1,d1,z1,p1,p2,p3,p4,p5,p6,p7,p8⟩:=aA (hT _ _ ht)
 rw[p4] at hk
 obtain rfl:=jy hk
 unfold Instr.sliceAt
 rw[ag (az p2 w)]
 simp only
 unfold Instr.slice aC
 rw[ag (az p2 w)]
 simp only[Option.isSome_none,Bool.false_eq_true,if_false,ew]
 unfold Instr.sliceBounds
 simp only[Bool.false_eq_true,if_false]
 rw[ag (show(do
  let m ← (pure l.length:Sem Nat)
  let h ← (pure m:Sem Nat)
  let l ← Instr.sliceBound (.int k (a:Int)) h .sliceB
  pure (l,h,m)).run P w = .ok (a,l.length,l.length) w from by
   rw[ag (run_pure P _ w),ag (run_pure P _ w),ag (en (by omega) (by omega))]
   rfl)]
 simp only[j3]
 have e:(l.drop a).take (l.length - a)=l.drop a:=List.take_of_length_le (by simp)
 rw[e]
 rfl
theorem tL {α:Type} (l:List α) (hl:0<l.length) : ∀ (n i:Nat),i<n*l.length→((List.replicate n l).flatten)[i]? = l[i%l.length]?
 | 0,i,h=>by simp at h
 | n+1,i,h=>by
  rw[List.replicate_succ,List.flatten_cons]
  by_cases hi:i<l.length
  · rw[List.getElem?_append_left hi,Nat.mod_eq_of_lt hi]
  · rw[List.getElem?_append_right (by omega),tL l hl n (i - l.length) (by rw[Nat.succ_mul] at h;omega)]
    congr 1
    rw[Nat.mod_eq_sub_mod (by omega:i≥l.length)]
theorem AJ {α:Type} (l:List α) (n:Nat):((List.replicate n l).flatten).length=n*l.length:=by
 induction n with
 | zero=>simp
 | succ n ih=>rw[List.replicate_succ,List.flatten_cons,List.length_append,ih,Nat.succ_mul];omega
theorem jR (z:List Value) (hz:0<z.length) (n:Nat):(Array.range (n*z.length)).map ((⟨z⟩:Array Value)[· % (⟨z⟩:Array Value).size]!)=⟨(List.replicate n z).flatten⟩:=by
 apply Array.toList_inj.1
 apply List.ext_getElem?
 intro i
 rw[Array.toList_map]
 show((Array.range (n*z.length)).toList.map _)[i]? = ((List.replicate n z).flatten)[i]?
 rw[Array.toList_range,List.getElem?_map]
 by_cases hi:i<n*z.length
 · rw[List.getElem?_range hi,tL z hz n i hi]
   have hm:i%z.length<z.length:=Nat.mod_lt _ hz
   rw[List.getElem?_eq_getElem hm]
   simp[hm]
 · rw[List.getElem?_eq_none (by simpa using hi),List.getElem?_eq_none (by rw[AJ];omega)]
   rfl
theorem aj.pJ (hT:bn P aK) {t:TypeId} {ti te:TI} {e:TypeId} (ht:look aK t=some ti) (hk:ti.k = .slice e) (he:look aK e=some te) {k k':IntKind} {m m':Int} {K:KV} (n:Nat) (hm:m=(n:Int)) (hm':m'=(n:Int))
 (hn:0<n) (hs0:0<te.size) (hzl:te.zero.length=te.size) (hsmall:n≤1000000) (hroom:te.bytes*n≤1000000000)
 (h : ∀ b,K (.slice (some ⟨b,0,none⟩) n n) bs cs ⟨F.D,F.rs ++ [(b,Row.c (List.replicate n te.zero).flatten)]⟩):aj P w0 R av (Instr.makeSlice t (.int k m) (.int k' m')) bs cs F K:=by
 subst hm hm'
 refine bT.2 fun w hst=>?_
 obtain⟨i1,d1,z1,p1,p2,p3,p4,p5,p6,p7,p8⟩:=aA (hT _ _ ht)
 obtain⟨i2,d2,z2,q1,q2,q3,q4,q5,q6,q7,q8⟩:=aA (hT _ _ he)
 rw[p4] at hk
 obtain rfl:=cO hk
 refine⟨_,_,[],cs,_,?_,by rw[List.append_nil];exact hst.newRow ((List.replicate n te.zero).flatten) e,by rw[List.append_nil];exact h _⟩
 unfold Instr.makeSlice
 rw[ag (az p2 w)]
 simp only
 rw[ag (m:=asInt _) (a:=(n:Int)) (w':=w) rfl,ag (m:=asInt _) (a:=(n:Int)) (w':=w) rfl,ag (run_typeInfo q1 w)]
 have w1:IntKind.i64.wrap (n:Int)=n:=wrap_i64 (by omega)
 simp only[w1]
 have hb1:(i2.bytes:Int)*(n:Int)≤1000000000:=by
  have h3:((te.bytes*n:Nat):Int)≤((1000000000:Nat):Int):=Int.ofNat_le.2 hroom
  rw[Int.natCast_mul,q7] at h3
  exact h3
 have ht1:(decide ((n:Int)<0)||decide ((i2.bytes:Int)*(n:Int)>2 ^ 48))=false:=by
  have e48:(2:Int) ^ 48=281474976710656:=by decide
  rw[Bool.or_eq_false_iff,e48]
  exact⟨decide_eq_false (by omega),decide_eq_false (by omega)⟩
 simp only[ht1,Bool.false_or]
 have ht2:(decide ((n:Int)<0)||decide ((n:Int)>(n:Int)))=false:=by
  rw[Bool.or_eq_false_iff]
  exact⟨decide_eq_false (by omega),decide_eq_false (by omega)⟩
 rw[if_neg (by rw[ht2];simp)]
 rw[ag (run_askRoom _ _),ag (run_sizeOf q1 w),← q5]
 simp only[Int.toNat_natCast]
 have hz2:z2.cells=⟨te.zero⟩:=by rw[q6]
 have h0:n*te.size≠0:=Nat.ne_of_gt (Nat.mul_pos hn hs0)
 rw[if_neg h0,ag (dW q1 q3 w),ag (run_pure P _ w)]
 rw[hz2,← hzl,jR te.zero (by omega) n]
 rw[ag (ic w e _)]
 rfl
end
end Go.Sx
namespace Go.Sx
open Go
set_option linter.unusedVariables false
set_option linter.unusedSimpArgs false
variable {P:Program} {aK:fk} {w0:World} {R:Nat→Nat→Prop} {av:Nat→Prop} {bs:List (Nat×Nat)} {cs:List (List Value)} {F:Fx}
theorem cF {α:Type} : ∀ {l:List α} {n:Nat} {x:α} {K:α→Prop},l[n]? = some x→K x→fK l n K
 | [],n,x,K,h,_=>by simp at h
 | y::l,0,x,K,h,k=>by
  simp at h
  subst h
  exact k
 | y::l,n+1,x,K,h,k=>cF (l:=l) (by simpa using h) k
theorem eB : ∀ {l:List Value} {o:Nat} {m:List Value} {K:List Value→Prop},o+m.length≤l.length→K (laid l o m)→ix l o m K
 | xs,0,[],K,_,h=>by
  unfold ix
  simpa [laid] using h
 | x::xs,0,y::ys,K,hl,h=>by
  unfold ix
  refine eB (l:=xs) (o:=0) (m:=ys) (by simp at hl ⊢;omega) ?_
  simpa [laid] using h
 | x::xs,o+1,ys,K,hl,h=>by
  unfold ix
  refine eB (l:=xs) (o:=o) (m:=ys) (by simp at hl;omega) ?_
  have e:o+1+ys.length=(o+ys.length)+1:=by omega
  simpa [laid,e] using h
 | [],0,y::ys,K,hl,h=>by simp at hl
 | [],o+1,ys,K,hl,h=>by simp at hl
theorem bL {i n:Nat} (h:i<n):Nat.blt i n=true:=by
 simp[Nat.blt]
 omega
theorem bp.box {b o:Nat} {c:List Value} (i:Nat) (hb:nth (0,0) bs i=(b,o)) (hi:i<cs.length) (hc:nth [] cs i=c):bp w0 R av bs cs F (some ⟨b,o,none⟩) c:=fun w hst=>by
 obtain⟨h1,h2⟩:=hst.box.get i hi
 rw[hb,hc] at h1
 exact .Ba h1
theorem ai.dk (hT:bn P aK) {t:TypeId} {ti te:TI} {n:Nat} {e:TypeId} (ht:look aK t=some ti) (hk:ti.k = .arr n e) (he:look aK e=some te) {a:Addr} {k:IntKind} {i:Int} {K:Value→Prop}
 (j:Nat) (hj:i=(j:Int)) (h1:j<n) (ha:a.spot=none) (h:K (.pointer (some (a.add (j*te.size))))):ai P w0 R av (Instr.indexAt t (.pointer (some a)) (.int k i)) bs cs F K:=by
 subst hj
 refine(aQ _ _ _ _).2 ⟨_,fun w _=>?_,h⟩
 obtain⟨i1,d1,z1,p1,p2,p3,p4,p5,p6,p7,p8⟩:=aA (hT _ _ ht)
 obtain⟨i2,d2,z2,q1,q2,q3,q4,q5,q6,q7,q8⟩:=aA (hT _ _ he)
 rw[p4] at hk
 have hd:d1 = .array n e:=by
  cases d1<;>simp[ez] at hk
  obtain⟨rfl,rfl⟩:=hk
  rfl
 subst hd
 unfold Instr.indexAt
 rw[ag (m:=asIntOf (.int k (j:Int))) (a:=(k,(j:Int))) (w':=w) rfl]
 simp only
 rw[ag (az p2 w)]
 simp only
 rw[ag (m:=Instr.sureAddr (.pointer (some a))) (a:=a) (w':=w) rfl,ag (run_pure P _ w)]
 rw[ag (az p2 w)]
 simp only
 rw[if_pos ⟨by omega,by omega⟩,ag (run_sizeOf q1 w),← q5]
 simp
theorem ai.nA (hT:bn P aK) {t:TypeId} {ti te:TI} {n:Nat} {e:TypeId} (ht:look aK t=some ti) (hk:ti.k = .arr n e) (he:look aK e=some te) (hea:te.k.agg=false) (hsz:te.size=1)
 {l:List Value} {k:IntKind} {i:Int} {v:Value} {K:Value→Prop}
 (j:Nat) (hj:i=(j:Int)) (h1:j<n) (hv:l[j]? = some v) (h:K v):ai P w0 R av (Instr.index t (.agg ⟨l⟩) (.int k i)) bs cs F K:=by
 subst hj
 refine(aQ _ _ _ _).2 ⟨_,fun w _=>?_,h⟩
 obtain⟨i1,d1,z1,p1,p2,p3,p4,p5,p6,p7,p8⟩:=aA (hT _ _ ht)
 obtain⟨i2,d2,z2,q1,q2,q3,q4,q5,q6,q7,q8⟩:=aA (hT _ _ he)
 rw[p4] at hk
 have hd:d1 = .array n e:=by
  cases d1<;>simp[ez] at hk
  obtain⟨rfl,rfl⟩:=hk
  rfl
 subst hd
 unfold Instr.index
 rw[ag (m:=asIntOf (.int k (j:Int))) (a:=(k,(j:Int))) (w':=w) rfl]
 simp only
 rw[ag (az p2 w)]
 simp only
 rw[if_pos ⟨by omega,by omega⟩,ag (run_sizeOf q1 w),← q5,hsz]
 unfold part
 rw[ag (eL q2 w),← q4,hea]
 have hg:(⟨l⟩:Array Value)[j]? = some v:=by simpa using hv
 simp[hg]
theorem ai.zI (hT:bn P aK) {t:TypeId} {ti te:TI} {n:Nat} {e:TypeId} (ht:look aK t=some ti) (hk:ti.k = .arr n e) (he:look aK e=some te) (hea:te.k.agg=true)
 {l m:List Value} {k:IntKind} {i:Int} {K:Value→Prop}
 (j:Nat) (hj:i=(j:Int)) (h1:j<n) (hm:(l.drop (j*te.size)).take te.size=m) (hl:j*te.size+te.size≤l.length) (h:K (.agg ⟨m⟩)):ai P w0 R av (Instr.index t (.agg ⟨l⟩) (.int k i)) bs cs F K:=by
 subst hj
 refine(aQ _ _ _ _).2 ⟨_,fun w _=>?_,h⟩
 obtain⟨i1,d1,z1,p1,p2,p3,p4,p5,p6,p7,p8⟩:=aA (hT _ _ ht)
 obtain⟨i2,d2,z2,q1,q2,q3,q4,q5,q6,q7,q8⟩:=aA (hT _ _ he)
 rw[p4] at hk
 have hd:d1 = .array n e:=by
  cases d1<;>simp[ez] at hk
  obtain⟨rfl,rfl⟩:=hk
  rfl
 subst hd
 unfold Instr.index
 rw[ag (m:=asIntOf (.int k (j:Int))) (a:=(k,(j:Int))) (w':=w) rfl]
 simp only
 rw[ag (az p2 w)]
 simp only
 rw[if_pos ⟨by omega,by omega⟩,ag (run_sizeOf q1 w),← q5,Int.toNat_natCast]
 unfold part
 rw[ag (eL q2 w),← q4,hea]
 simp only[if_true]
 rw[ag (run_sizeOf q1 w),← q5]
 have hc:(⟨l⟩:Array Value).extract (j*te.size) (j*te.size+te.size)=⟨m⟩:=by
  rw[← hm]
  simp[List.extract_eq_take_drop]
 simp[hc,hl]
theorem ai.BS (hT:bn P aK) {t:TypeId} {ti te:TI} {n:Nat} {e:TypeId} (ht:look aK t=some ti) (hk:ti.k = .arr n e) (he:look aK e=some te) {a:Addr} {K:Value→Prop} (ha:a.spot=none)
 (h:K (.slice (some (if n=0 then a else a.add (0*te.size))) (n - 0) (n - 0))):ai P w0 R av (Instr.sliceAt t (.pointer (some a)) none none none) bs cs F K:=by
 refine(aQ _ _ _ _).2 ⟨_,fun w _=>?_,h⟩
 obtain⟨i1,d1,z1,p1,p2,p3,p4,p5,p6,p7,p8⟩:=aA (hT _ _ ht)
 obtain⟨i2,d2,z2,q1,q2,q3,q4,q5,q6,q7,q8⟩:=aA (hT _ _ he)
 rw[p4] at hk
 have hd:d1 = .array n e:=by
  cases d1<;>simp[ez] at hk
  obtain⟨rfl,rfl⟩:=hk
  rfl
 subst hd
 unfold Instr.sliceAt
 rw[ag (az p2 w)]
 simp only
 rw[ag (m:=Instr.sureAddr (.pointer (some a))) (a:=a) (w':=w) rfl]
 rw[ag (m:=Instr.sliceBounds false n n none none none) (a:=(0,n,n)) (w':=w) rfl]
 simp only
 rw[ag (run_sizeOf q1 w),← q5]
 rfl
theorem aj.w_ (hT:bn P aK) {e:TypeId} {ti:TI} (ht:look aK e=some ti) {z:List Value} (hz:ti.zero=z) {K:KV} (h : ∀ b,K (.pointer (some ⟨b,0,none⟩)) bs cs ⟨F.D,F.rs ++ [(b,Row.c z)]⟩) :
 aj P w0 R av (Instr.alloc e true (.tuple #[])) bs cs F K:=by
 subst hz
 refine bT.2 fun w hst=>?_
 obtain⟨i,d,z,h1,h2,h3,h4,h5,h6,-,-⟩:=aA (hT _ _ ht)
 refine⟨_,_,[],cs,_,?_,by rw[List.append_nil];exact hst.newRow ti.zero e,by rw[List.append_nil];exact h _⟩
 unfold Instr.alloc
 rw[ag (dW h1 h3 w)]
 rw[h6]
 rfl
theorem aj.ye {e:TypeId} {z:List Value} {K:KV} (h : ∀ b,K (.pointer (some ⟨b,0,none⟩)) bs cs ⟨F.D,F.rs ++ [(b,Row.c z)]⟩) :
 aj P w0 R av (Instr.box e (.agg ⟨z⟩)) bs cs F K:=by
 refine bT.2 fun w hst=>?_
 exact⟨_,_,[],cs,_,rfl,by rw[List.append_nil];exact hst.newRow z e,by rw[List.append_nil];exact h _⟩
theorem ai.r8 (hT:bn P aK) {t:TypeId} {ti:TI} (ht:look aK t=some ti) (hk:ti.k = .struct) {ps:List (Nat×Value)} {K:Value→Prop} (h:ky (fA ti) ps ti.zero fun z=>K (.agg ⟨z⟩)) :
 ai P w0 R av (Instr.build t ⟨ps⟩) bs cs F K:=by
 obtain⟨z,h1,h2⟩:=run_build (hT _ _ ht) hk h
 exact(aQ _ _ _ _).2 ⟨_,fun w _=>h1 w,h2⟩
theorem aj.DX (hT:bn P aK) {t xt ty:TypeId} {ti te:TI} {e:TypeId} (ht:look aK t=some ti) (hk:ti.k = .slice e) (he:look aK e=some te) {D:World→Prop} {r1 r2:List (Nat×Row)} {b k n c:Nat} {C M:List Value} {p:Addr}
 {q:Option Addr} {m cx:Nat} {K:KV} (hp:p=⟨b,k,none⟩) (hM:bp w0 R av bs cs ⟨D,r1 ++ [(b,Row.c C)]++r2⟩ q M) (hm:M.length=m*te.size) (hone : ∀ v∈M,aO v=true) (hle:k+(min m n)*te.size≤C.length)
 (h:K (.int .i64 ((min m n:Nat):Int)) bs cs ⟨D,r1 ++ [(b,Row.c (laid C k (M.take ((min m n)*te.size))))]++r2⟩) :
 aj P w0 R av (Builtin.copy_ #[t,xt] ty #[.slice (some p) n c,.slice q m cx]) bs cs ⟨D,r1 ++ [(b,Row.c C)]++r2⟩ K:=by
 subst hp
 refine bT.2 fun w hst=>?_
 obtain⟨i1,d1,z1,p1,p2,p3,p4,p5,p6,p7,p8⟩:=aA (hT _ _ ht)
 obtain⟨i2,d2,z2,q1,q2,q3,q4,q5,q6,q7,q8⟩:=aA (hT _ _ he)
 rw[p4] at hk
 obtain rfl:=cO hk
 have hmin:min m n*te.size≤M.length:=by rw[hm];exact Nat.mul_le_mul_right _ (Nat.min_le_left _ _)
 have hlt:(M.take (min m n*te.size)).length=min m n*te.size:=by rw[List.length_take];omega
 obtain⟨w',g1,g2⟩:=St.pV (P:=P) (w':=w) (k:=k) hst (l:=M.take (min m n*te.size)) (fun v hv=>hone v (List.mem_of_mem_take hv)) (by rw[hlt];exact hle)
 refine⟨_,w',[],cs,_,?_,by rw[List.append_nil];exact g2,by rw[List.append_nil];exact h⟩
 unfold Builtin.copy_
 simp only[show(#[t,xt]:Array TypeId)[0]? = some t from rfl,show ∀ u v:Value,(#[u,v]:Array Value)[0]? = some u from fun _ _=>rfl,show ∀ u v:Value,(#[u,v]:Array Value)[1]? = some v from fun _ _=>rfl]
 rw[ag (az p2 w)]
 simp only
 rw[ag (m:=Builtin.lenOf (.slice q m cx)) (a:=m) (w':=w) rfl,ag (run_sizeOf q1 w),← q5]
 have hf:=dV (P:=P) (n:=m) (c:=cx) (((hM w hst).take (min m n*te.size))) (m:=min m n) (sz:=te.size) hlt
 rw[show Nat.min m n=min m n from rfl,ag hf]
 simp only
 rw[ag g1]
 rfl
theorem aj.B3 (hT:bn P aK) {t ty:TypeId} {ti te:TI} {e:TypeId} {z:Value} (ht:look aK t=some ti) (hk:ti.k = .slice e) (he:look aK e=some te) (hs1:te.size=1) (hz:te.zero = [z]) (hz1:aO z=true)
 {D:World→Prop} {r1 r2:List (Nat×Row)} {b k n c:Nat} {C:List Value} {p:Addr} {K:KV} (hp:p=⟨b,k,none⟩) (hn:0<n) (hle:k+n≤C.length)
 (h:K (.tuple #[]) bs cs ⟨D,r1 ++ [(b,Row.c (laid C k (List.replicate n z)))]++r2⟩) :
 aj P w0 R av (Builtin.clear_ #[t] ty #[.slice (some p) n c]) bs cs ⟨D,r1 ++ [(b,Row.c C)]++r2⟩ K:=by
 subst hp
 obtain⟨n,rfl⟩ : ∃ n',n=n'+1:=⟨n - 1,by omega⟩
 refine bT.2 fun w hst=>?_
 obtain⟨i1,d1,z1,p1,p2,p3,p4,p5,p6,p7,p8⟩:=aA (hT _ _ ht)
 obtain⟨i2,d2,z2,q1,q2,q3,q4,q5,q6,q7,q8⟩:=aA (hT _ _ he)
 rw[p4] at hk
 obtain rfl:=cO hk
 have hzc:z2.cells=⟨[z]⟩:=by rw[← hz,q6]
 have hzz:(Builtin.zeroCells z2.cells (n+1)).toList=List.replicate (n+1) z:=by
  rw[hzc]
  unfold Builtin.zeroCells
  have:=jR [z] (by simp) (n+1)
  have e1:(n+1)*(⟨[z]⟩:Array Value).size=(n+1) * [z].length:=rfl
  rw[e1,this]
  simp
 obtain⟨w',g1,g2⟩:=St.pV (P:=P) (w':=w) (k:=k) hst (l:=List.replicate (n+1) z) (fun v hv=>by rw[List.eq_of_mem_replicate hv];exact hz1) (by simpa using hle)
 refine⟨_,w',[],cs,_,?_,by rw[List.append_nil];exact g2,by rw[List.append_nil];exact h⟩
 unfold Builtin.clear_
 simp only[show(#[t]:Array TypeId)[0]? = some t from rfl,show ∀ u:Value,(#[u]:Array Value)[0]? = some u from fun _=>rfl]
 rw[ag (az p2 w)]
 simp only
 rw[ag (dW q1 q3 w),hzz,ag g1]
 rfl
theorem ai.shl {t:TypeId} {x y:Operand} {k k':IntKind} {a:Int} {j:Nat} {i:Int} {K:Value→Prop} (hi:i=(j:Int)) (hj:j≤k.bits) (h:K (.int k (k.wrap (a*2 ^ j)))) :
 ai P w0 R av (do eqGuard .shl t x y (.int k a) (.int k' i);binOp .shl t (.int k a) (.int k' i)) bs cs F K:=by
 subst hi
 refine(aQ _ _ _ _).2 ⟨_,fun w _=>?_,h⟩
 rw[ag (gu _ _ _ _ _ _ _ _ w)]
 simp only[binOp,Op.shift]
 rw[if_neg (by omega),Int.toNat_natCast,Nat.min_eq_left hj]
 rfl
theorem ai.shr {t:TypeId} {x y:Operand} {k k':IntKind} {a:Nat} {j:Nat} {i:Int} {K:Value→Prop} (hi:i=(j:Int)) (hj:j≤k.bits) (h:K (.int k ((a/2 ^ j:Nat):Int))) :
 ai P w0 R av (do eqGuard .shr t x y (.int k (a:Int)) (.int k' i);binOp .shr t (.int k (a:Int)) (.int k' i)) bs cs F K:=by
 subst hi
 refine(aQ _ _ _ _).2 ⟨_,fun w _=>?_,h⟩
 rw[ag (gu _ _ _ _ _ _ _ _ w)]
 simp only[binOp,Op.shift]
 rw[if_neg (by omega),Int.toNat_natCast,Nat.min_eq_left hj]
 have:((a:Int).fdiv (2 ^ j))=((a/2 ^ j:Nat):Int):=by
  rw[Int.fdiv_eq_ediv_of_nonneg _ (by exact_mod_cast Nat.zero_le _)]
  push_cast
  rfl
 rw[this]
 rfl
end Go.Sx
namespace Go.Sx
open Go
set_option linter.unusedVariables false
set_option linter.unusedSimpArgs false
variable {P:Program} {aK:fk} {w0:World} {R:Nat→Nat→Prop} {av:Nat→Prop} {bs:List (Nat×Nat)} {cs:List (List Value)} {F:Fx}
abbrev mJ:=List (Value×Value)
def bF (l:mJ):Array MapEntry:=(l.zipIdx.map fun x=>⟨x.1.1,x.1.2,x.2⟩).toArray
theorem dI (l:mJ) (i:Nat):(bF l).toList[i]? = l[i]?.map fun p=>⟨p.1,p.2,i⟩:=by
 simp only[bF,List.getElem?_map,List.getElem?_zipIdx]
 cases l[i]?<;>simp
theorem rK {l:mJ} {e:MapEntry} (h:e∈(bF l).toList) : ∃ i p,l[i]? = some p∧e=⟨p.1,p.2,i⟩:=by
 obtain⟨i,hi⟩:=List.mem_iff_getElem?.1 h
 rw[dI] at hi
 cases hp:l[i]? with
 | none=>rw[hp] at hi;cases hi
 | some p=>
  rw[hp] at hi
  cases hi
  exact⟨i,p,hp,rfl⟩
theorem lP (l:mJ):(bF l).toList.map (·.born)=List.range l.length:=by
 apply List.ext_getElem?
 intro i
 rw[List.getElem?_map,dI]
 by_cases h:i<l.length
 · rw[List.getElem?_eq_getElem h,List.getElem?_range h]
   rfl
 · rw[List.getElem?_eq_none (by omega),List.getElem?_eq_none (by simp;omega)]
   rfl
theorem Ae (l:mJ) (p:Value×Value):bF (l ++ [p])=(bF l).push ⟨p.1,p.2,l.length⟩:=by
 simp[bF,List.zipIdx_append]
theorem Bn (l:mJ) (i:Nat) (k v:Value):(bF l).modify i (fun e=>{ e with key:=k,val:=v })=bF (l.set i (k,v)):=by
 apply Array.ext_getElem?
 intro j
 rw[Array.getElem?_modify]
 have e1 : ∀ m:mJ,(bF m)[j]? = (bF m).toList[j]?:=fun m=>by simp
 rw[e1,e1,dI,dI,List.getElem?_set]
 by_cases hij:i=j
 · subst hij
   rw[if_pos rfl]
   by_cases hl:i<l.length
   · simp[hl]
   · simp[hl]
 · simp[hij]
def jm (w:World) (b:Nat) (l:mJ):Prop:=w.heap[b]? = some (.map (bF l) l.length)
def df (w0:World) (R:Nat→Nat→Prop) (av:Nat→Prop) (bs:List (Nat×Nat)) (cs:List (List Value)) (F:Fx) (b:Nat) (l:mJ):Prop:=∀ w,St w0 R av w bs cs F→jm w b l
theorem df.row {b:Nat} {l:mJ} (h:(b,Row.m (bF l) l.length)∈F.rs):df w0 R av bs cs F b l:=fun w hst=>(hst.rows _ h).1
theorem df.fact {b:Nat} {l:mJ} (h : ∀ w,F.D w→jm w b l):df w0 R av bs cs F b l:=fun w hst=>h w hst.now
theorem aq.Bp {D:World→Prop} {b:Nat} {l:mJ} {r1 r2:List (Nat×Row)}:aq ⟨D,r1 ++ [(b,Row.m (bF l) l.length)]++r2⟩ ⟨fun w=>D w∧jm w b l,r1++r2⟩:=by
 intro w0 R av w bs cs hst
 have hm:(b,Row.m (bF l) l.length)∈r1 ++ [(b,Row.m (bF l) l.length)]++r2:=by simp
 have hb:jm w b l:=(hst.rows _ hm).1
 have hsub:(r1++r2).Sublist (r1 ++ [(b,Row.m (bF l) l.length)]++r2):=by
  rw[List.append_assoc]
  exact List.Sublist.append (List.Sublist.refl _) (List.sublist_append_right _ _)
 have h2:=hst.imp (F':=⟨D,r1++r2⟩) ⟨hsub,fun w h=>h⟩
 have hnd:=hst.nd
 refine⟨h2.dB,h2.box,h2.nd,h2.own,h2.avlt,h2.rows,h2.data.and ?_⟩
 refine Holds.block b (aW hb) ?_ (fun w' hw=>by unfold jm;rw[hw];exact hb)
 simp only[List.map_append,List.map_cons,List.map_nil,List.nodup_append] at hnd
 obtain⟨nb,⟨⟨n1,n0,n10⟩,n2,n12⟩,nbr⟩:=hnd
 rintro(ha | ⟨x,hx,he⟩ | ⟨r,hr,he⟩)
 · rcases(hst.rows _ hm).2 with h | ⟨hna,_⟩
   · have:=hst.avlt b ha
     simp at h
     omega
   · exact hna ha
 · exact nbr x.1 (List.mem_map.2 ⟨x,hx,rfl⟩) b (by simp) he
 · rcases List.mem_append.1 hr with hr | hr
   · exact n10 r.1 (List.mem_map.2 ⟨r,hr,rfl⟩) b (by simp) he
   · exact n12 b (by simp) r.1 (List.mem_map.2 ⟨r,hr,rfl⟩) he.symm
section keys
variable {d:TypeDesc} {k:Value}
theorem iP (hk:MapKept.IsKey d k) {l:mJ} (hl : ∀ p∈l,MapKept.IsKey d p.1) :
 (∃ i v,l[i]? = some (k,v)∧Instr.findNow d k (bF l).toList 0=some (some (i,v)))∨((∀ p∈l,p.1≠k)∧Instr.findNow d k (bF l).toList 0=some none):=by
 have hk' : ∀ x∈(bF l).toList,MapKept.IsKey d x.key:=fun x hx=>by
  obtain⟨i,p,h1,rfl⟩:=rK hx
  exact hl p (List.mem_of_getElem? h1)
 rcases MapKept.findNow_spec hk (bF l).toList 0 hk' with⟨h1,h2⟩ | ⟨j,e,h1,h2,h3⟩
 · refine .inr ⟨fun p hp=>?_,h1⟩
   obtain⟨i,hi⟩:=List.mem_iff_getElem?.1 hp
   have:(bF l).toList[i]? = some ⟨p.1,p.2,i⟩:=by rw[dI,hi];rfl
   exact h2 _ (List.mem_of_getElem? this)
 · rw[dI] at h2
   cases hp:l[j]? with
   | none=>rw[hp] at h2;cases h2
   | some p=>
    rw[hp] at h2
    cases h2
    obtain⟨p1,p2⟩:=p
    have h3:p1=k:=h3
    subst h3
    rw[Nat.zero_add] at h1
    exact .inl ⟨j,p2,hp,h1⟩
end keys
def xm:TK→Option TypeDesc
 | .int k=>some (.int k)
 | .str=>some .string
 | _=>none
theorem uZ {t:TypeDesc} {d:TypeDesc} (h:xm (ez t)=some d):t=d:=by
 cases t<;>simp[ez,xm] at h<;>exact h
theorem ai.eg (hT:bn P aK) {t kt et:TypeId} {ti tk:TI} (ht:look aK t=some ti) (hk:ti.k = .map kt et) (hkt:look aK kt=some tk) {d:TypeDesc} (hd:xm tk.k=some d) {b:Nat} {l:mJ} {k v:Value} {ok:Bool} {K:Value→Prop}
 (hm:df w0 R av bs cs F b l) (hkk:MapKept.IsKey d k) (hl : ∀ p∈l,MapKept.IsKey d p.1) (hv : ∀ (i:Nat) u,l[i]? = some (k,u)→u=v) (hin : ∃ p∈l,p.1=k)
 (h:K (if ok then .tuple #[v,.bool true] else v)) :
 ai P w0 R av (Instr.lookup t (.map (some b)) k ok) bs cs F K:=by
 refine(aQ _ _ _ _).2 ⟨_,fun w hst=>?_,h⟩
 obtain⟨i1,d1,z1,p1,p2,p3,p4,p5,p6,p7,p8⟩:=aA (hT _ _ ht)
 obtain⟨i2,d2,z2,q1,q2,q3,q4,q5,q6,q7,q8⟩:=aA (hT _ _ hkt)
 rw[p4] at hk
 obtain rfl:=qp hk
 rw[q4] at hd
 obtain rfl:=uZ hd
 have hb:w.heap[b]? = some (.map (bF l) l.length):=hm w hst
 have hck:(Instr.checkKey (bF l).isEmpty 10000 kt k).run P w = .ok () w:=MapKept.run_checkKey q2 hkk _ 9999
 rcases iP hkk hl with⟨i,u,h1,h2⟩ | ⟨h1,h2⟩
 · have hf:=MapKept.run_findKey (w:=w) q2 h2
   have:=hv i u h1
   subst this
   cases ok<;>simp[Instr.lookup,run_underlying p2,MapKept.run_getObj_map hb,hck,hf,Result.andThen]
 · obtain⟨p,hp,he⟩:=hin
   exact absurd he (h1 p hp)
theorem ai.iD (hT:bn P aK) {t kt et:TypeId} {ti tk:TI} (ht:look aK t=some ti) (hk:ti.k = .map kt et) (hkt:look aK kt=some tk) {d:TypeDesc} (hd:xm tk.k=some d) {b:Nat} {l:mJ} {k z:Value} {ok:Bool} {K:Value→Prop}
 (hm:df w0 R av bs cs F b l) (hkk:MapKept.IsKey d k) (hl : ∀ p∈l,MapKept.IsKey d p.1) (hno : ∀ p∈l,p.1≠k) (hz:(P.info? et).bind (·.zero)=some z)
 (h:K (if ok then .tuple #[z,.bool false] else z)) :
 ai P w0 R av (Instr.lookup t (.map (some b)) k ok) bs cs F K:=by
 refine(aQ _ _ _ _).2 ⟨_,fun w hst=>?_,h⟩
 obtain⟨i1,d1,z1,p1,p2,p3,p4,p5,p6,p7,p8⟩:=aA (hT _ _ ht)
 obtain⟨i2,d2,z2,q1,q2,q3,q4,q5,q6,q7,q8⟩:=aA (hT _ _ hkt)
 rw[p4] at hk
 obtain rfl:=qp hk
 rw[q4] at hd
 obtain rfl:=uZ hd
 have hb:w.heap[b]? = some (.map (bF l) l.length):=hm w hst
 have hck:(Instr.checkKey (bF l).isEmpty 10000 kt k).run P w = .ok () w:=MapKept.run_checkKey q2 hkk _ 9999
 rcases iP hkk hl with⟨i,u,h1,h2⟩ | ⟨h1,h2⟩
 · exact absurd rfl (hno _ (List.mem_of_getElem? h1))
 · have hf:=MapKept.run_findKey (w:=w) q2 h2
   have hzv:(zeroValue et).run P w = .ok z w:=by
    cases hi:P.info? et with
    | none=>rw[hi] at hz;cases hz
    | some i3=>
     rw[hi] at hz
     exact dW hi hz w
   cases ok<;>simp[Instr.lookup,run_underlying p2,MapKept.run_getObj_map hb,hck,hf,hzv,Result.andThen]
theorem aj.kY {t:TypeId} {K:KV} (h : ∀ b,K (.map (some b)) bs cs ⟨F.D,F.rs ++ [(b,Row.m (bF []) ([]:mJ).length)]⟩):aj P w0 R av (Instr.makeMap t none) bs cs F K:=aj.makeMap h
theorem a_.rA (hT:bn P aK) {t kt et:TypeId} {ti tk:TI} (ht:look aK t=some ti) (hk:ti.k = .map kt et) (hkt:look aK kt=some tk) {d:TypeDesc} (hd:xm tk.k=some d)
 {D:World→Prop} {r1 r2:List (Nat×Row)} {b:Nat} {l:mJ} {k v:Value} {K:KU} (hkk:MapKept.IsKey d k) (hl : ∀ p∈l,MapKept.IsKey d p.1) (hno : ∀ p∈l,p.1≠k)
 (h:K bs cs ⟨D,r1 ++ [(b,Row.m (bF (l ++ [(k,v)])) (l ++ [(k,v)]).length)]++r2⟩) :
 a_ P w0 R av (Instr.mapUpdate t (.map (some b)) k v) bs cs ⟨D,r1 ++ [(b,Row.m (bF l) l.length)]++r2⟩ K:=by
 refine gW.2 fun w hst=>?_
 obtain⟨i1,d1,z1,p1,p2,p3,p4,p5,p6,p7,p8⟩:=aA (hT _ _ ht)
 obtain⟨i2,d2,z2,q1,q2,q3,q4,q5,q6,q7,q8⟩:=aA (hT _ _ hkt)
 rw[p4] at hk
 obtain rfl:=qp hk
 rw[q4] at hd
 obtain rfl:=uZ hd
 have hb:w.heap[b]? = some (.map (bF l) l.length):=(hst.rows (b,Row.m (bF l) l.length) (by simp)).1
 have hck:(Instr.checkKey false 10000 kt k).run P w = .ok () w:=MapKept.run_checkKey q2 hkk _ 9999
 have h2:Instr.findNow d2 k (bF l).toList 0=some none:=by
  rcases iP hkk hl with⟨i,u,h1,_⟩ | ⟨_,h2⟩
  · exact absurd rfl (hno _ (List.mem_of_getElem? h1))
  · exact h2
 have hf:=MapKept.run_findKey (w:=w) q2 h2
 obtain⟨g1,g2⟩:=MapKept.heap_set (o':=.map (bF (l ++ [(k,v)])) (l ++ [(k,v)]).length) hb
 refine⟨{ w with heap:=w.heap.setIfInBounds b (.map (bF (l ++ [(k,v)])) (l ++ [(k,v)]).length) },[],cs,_,?_,?_,by rw[List.append_nil];exact h⟩
 · rw[Ae]
   simp[Instr.mapUpdate,run_underlying p2,MapKept.run_getObj_map hb,hck,hf,MapKept.run_setObj_map _ hb,Result.andThen]
 · rw[List.append_nil]
   exact hst.putRow (C':=Row.m (bF (l ++ [(k,v)])) (l ++ [(k,v)]).length) rfl rfl rfl (by simp) g2 g1 fun l hl=>by cases hl
theorem a_.yK (hT:bn P aK) {t kt et:TypeId} {ti tk:TI} (ht:look aK t=some ti) (hk:ti.k = .map kt et) (hkt:look aK kt=some tk) {d:TypeDesc} (hd:xm tk.k=some d)
 {D:World→Prop} {r1 r2:List (Nat×Row)} {b:Nat} {l:mJ} {k v:Value} {K:KU} (hkk:MapKept.IsKey d k) (hl : ∀ p∈l,MapKept.IsKey d p.1) (hin : ∃ p∈l,p.1=k)
 (h : ∀ i u,l[i]? = some (k,u)→K bs cs ⟨D,r1 ++ [(b,Row.m (bF (l.set i (k,v))) (l.set i (k,v)).length)]++r2⟩) :
 a_ P w0 R av (Instr.mapUpdate t (.map (some b)) k v) bs cs ⟨D,r1 ++ [(b,Row.m (bF l) l.length)]++r2⟩ K:=by
 refine gW.2 fun w hst=>?_
 obtain⟨i1,d1,z1,p1,p2,p3,p4,p5,p6,p7,p8⟩:=aA (hT _ _ ht)
 obtain⟨i2,d2,z2,q1,q2,q3,q4,q5,q6,q7,q8⟩:=aA (hT _ _ hkt)
 rw[p4] at hk
 obtain rfl:=qp hk
 rw[q4] at hd
 obtain rfl:=uZ hd
 have hb:w.heap[b]? = some (.map (bF l) l.length):=(hst.rows (b,Row.m (bF l) l.length) (by simp)).1
 have hck:(Instr.checkKey false 10000 kt k).run P w = .ok () w:=MapKept.run_checkKey q2 hkk _ 9999
 rcases iP hkk hl with⟨i,u,h1,h2⟩ | ⟨h1,_⟩
 · have hf:=MapKept.run_findKey (w:=w) q2 h2
   have e1:(bF l)[i]? = some ⟨k,u,i⟩:=by
    have:=dI l i
    rw[h1] at this
    simpa using this
   have hst2:(Instr.keyThatStays k k).run P w = .ok k w:=MapKept.run_keyThatStays hkk
   obtain⟨g1,g2⟩:=MapKept.heap_set (o':=.map (bF (l.set i (k,v))) (l.set i (k,v)).length) hb
   refine⟨{ w with heap:=w.heap.setIfInBounds b (.map (bF (l.set i (k,v))) (l.set i (k,v)).length) },[],cs,_,?_,?_,by rw[List.append_nil];exact h i u h1⟩
   · rw[← Bn]
     simp[Instr.mapUpdate,run_underlying p2,MapKept.run_getObj_map hb,hck,hf,e1,hst2,MapKept.run_setObj_map _ hb,Result.andThen]
   · rw[List.append_nil]
     exact hst.putRow (C':=Row.m (bF (l.set i (k,v))) (l.set i (k,v)).length) rfl rfl rfl (by simp) g2 g1 fun l hl=>by cases hl
 · obtain⟨p,hp,he⟩:=hin
   exact absurd he (h1 p hp)
def eH (b n:Nat) (seen:List Nat):Obj:=.mapIter (some b) n seen.toArray n
theorem St.newObj {w:World} (h:St w0 R av w bs cs F) (x:Obj):St w0 R av { w with heap:=w.heap.push x } bs cs ⟨F.D,F.rs ++ [(w.heap.size,Row.o x)]⟩:=by
 have hk:fE w { w with heap:=w.heap.push x }:=
  d_ rfl rfl rfl (by simp) (fun b hb=>by simp[Array.getElem?_push,Nat.ne_of_lt hb])
 refine(h.kept (F':=⟨fun _=>True,[(w.heap.size,Row.o x)]⟩) hk ⟨fun r hr=>?_,by simp,.pure trivial⟩).c_ (aq.imp fun w h=>h.1)
 simp at hr
 subst hr
 exact⟨by simp[iq],Nat.le_refl _⟩
theorem aj.rangeMap (hT:bn P aK) {t kt et:TypeId} {ti:TI} (ht:look aK t=some ti) (hk:ti.k = .map kt et) {b:Nat} {l:mJ} {K:KV} (hm:df w0 R av bs cs F b l)
 (h : ∀ r,K (.pointer (some ⟨r,0,none⟩)) bs cs ⟨F.D,F.rs ++ [(r,Row.o (eH b l.length []))]⟩):aj P w0 R av (Instr.range t (.map (some b))) bs cs F K:=by
 refine bT.2 fun w hst=>?_
 obtain⟨i1,d1,z1,p1,p2,p3,p4,p5,p6,p7,p8⟩:=aA (hT _ _ ht)
 rw[p4] at hk
 obtain rfl:=qp hk
 have hb:w.heap[b]? = some (.map (bF l) l.length):=hm w hst
 refine⟨_,_,[],cs,_,?_,by rw[List.append_nil];exact hst.newObj (eH b l.length []),by rw[List.append_nil];exact h _⟩
 simp[Instr.range,run_underlying p2,MapKept.run_getObj_map hb,Result.andThen,eH,newObj,Sem.run]
theorem vd {w w1:World} {D:World→Prop} {r1 r2:List (Nat×Row)} {r:Nat} {x x':Obj} (hx : ∀ c e f,x≠.cells c e f) (h:St w0 R av w bs cs ⟨D,r1 ++ [(r,Row.o x)]++r2⟩) (hw:w1=w∨w1=w.drew) :
 St w0 R av (Go.ChangeMaps.setBlock w1 r x') bs cs ⟨D,r1 ++ [(r,Row.o x')]++r2⟩:=by
 have hb:w.heap[r]? = some x:=(h.rows (r,Row.o x) (by simp)).1
 obtain⟨g1,g2⟩:=MapKept.heap_set (o':=x') hb
 rcases hw with rfl | rfl
 · exact h.putRow (C':=Row.o x') rfl rfl rfl (by simp[Go.ChangeMaps.setBlock]) g2 g1 fun l hl=>by cases hl
 · exact(h.drew).putRow (C':=Row.o x') rfl rfl rfl (by simp[Go.ChangeMaps.setBlock]) g2 g1 fun l hl=>by cases hl
theorem aj.Dn {ty:TypeId} {b r:Nat} {l:mJ} {D:World→Prop} {r1 r2:List (Nat×Row)} {seen:List Nat} {K:KV} (hm:df w0 R av bs cs ⟨D,r1 ++ [(r,Row.o (eH b l.length seen))]++r2⟩ b l)
 (h0:(∀ i,i<l.length→i∈seen)→K (.tuple #[.bool false]) bs cs ⟨D,r1 ++ [(r,Row.o (eH b l.length seen))]++r2⟩)
 (h1 : ∀ i k v,l[i]? = some (k,v)→i ∉ seen→K (.tuple #[.bool true,k,v]) bs cs ⟨D,r1 ++ [(r,Row.o (eH b l.length (seen ++ [i])))]++r2⟩) :
 aj P w0 R av (Instr.next (.pointer (some ⟨r,0,none⟩)) false ty) bs cs ⟨D,r1 ++ [(r,Row.o (eH b l.length seen))]++r2⟩ K:=by
 refine bT.2 fun w hst=>?_
 have hb:w.heap[b]? = some (.map (bF l) l.length):=hm w hst
 have hr:w.heap[r]? = some (.mapIter (some b) l.length seen.toArray l.length):=(hst.rows (r,Row.o (eH b l.length seen)) (by simp)).1
 rcases run_next_at (P:=P) w ty r b l.length l.length seen.toArray (bF l) l.length hr hb (fun x hx=>by
  obtain⟨i,p,h1,rfl⟩:=rK hx
  exact(List.getElem?_eq_some_iff.1 h1).1) (Nat.le_refl _) with⟨g1,g2⟩ | ⟨e,he,w1,hw1,g2⟩
 · refine⟨_,w,[],cs,_,g2,by rw[List.append_nil];exact hst,?_⟩
   rw[List.append_nil]
   refine h0 fun i hi=>?_
   apply Decidable.byContradiction
   intro hn
   have hz:leftOf (bF l) seen.toArray = #[]:=Array.eq_empty_of_size_eq_zero g1
   unfold leftOf at hz
   rw[Array.filter_eq_empty_iff] at hz
   have hmem:(⟨l[i].1,l[i].2,i⟩:MapEntry)∈bF l:=by
    rw[← Array.mem_toList_iff]
    refine List.mem_of_getElem? (i:=i) ?_
    rw[dI,List.getElem?_eq_getElem hi]
    rfl
   have:=hz _ hmem
   simp at this
   exact hn this
 · unfold leftOf at he
   have he':e∈bF l∧¬ e.born∈seen:=by
    rw[Array.mem_toList_iff,Array.mem_filter] at he
    simpa using he
   obtain⟨i,p,h2,rfl⟩:=rK (Array.mem_toList_iff.2 he'.1)
   refine⟨_,_,[],cs,_,g2,?_,by rw[List.append_nil];exact h1 i p.1 p.2 h2 he'.2⟩
   rw[List.append_nil]
   have e1:eH b l.length (seen ++ [i]) = .mapIter (some b) l.length (seen.toArray.push i) l.length:=by simp[eH]
   rw[e1]
   exact vd (x:=eH b l.length seen) (fun c e f=>by simp[eH]) hst hw1
theorem ai.Ck {b r:Nat} {l:mJ} {seen:List Nat} {i:Nat} {k v:Value} {K:Value→Prop} (hi:l[i]? = some (k,v)) (hm:df w0 R av bs cs F b l) (hr:(r,Row.o (eH b l.length (seen ++ [i])))∈F.rs)
 (h:K (.tuple #[k,v])):ai P w0 R av (Instr.entry (.pointer (some ⟨r,0,none⟩))) bs cs F K:=by
 refine(aQ _ _ _ _).2 ⟨_,fun w hst=>?_,h⟩
 have hb:w.heap[b]? = some (.map (bF l) l.length):=hm w hst
 have hr':w.heap[r]? = some (.mapIter (some b) l.length (seen.toArray.push i) l.length):=by
  have:=(hst.rows _ hr).1
  simpa [iq,eH] using this
 have he:(⟨k,v,i⟩:MapEntry)∈(bF l).toList:=by
  refine List.mem_of_getElem? (i:=i) ?_
  rw[dI,hi]
  rfl
 exact run_entry_at w r b l.length seen.toArray (bF l) l.length ⟨k,v,i⟩ hr' hb he (by rw[lP];exact List.nodup_range)
end Go.Sx
namespace Go.Sx
open Go
set_option linter.unusedVariables false
set_option linter.unusedSimpArgs false
def aJ (l:List UInt8) (i:Nat):Nat:=(l.getD i 0).toNat
theorem bJ (l:List UInt8) (i:Nat):aJ l i<256:=UInt8.toNat_lt _
theorem lJ {l:List UInt8} {i:Nat} (h:i<l.length):aJ l i=l[i].toNat:=by
 unfold aJ
 rw[List.getD_eq_getElem?_getD,List.getElem?_eq_getElem h]
 rfl
theorem bW {l m:List UInt8} (hl:l.length=m.length) (h : ∀ i,i<l.length→aJ l i=aJ m i):l=m:=by
 apply List.ext_getElem hl
 intro i h1 h2
 have:=h i h1
 rw[lJ h1,lJ h2] at this
 exact UInt8.toNat_inj.1 this
theorem zQ {l:List UInt8} {i:Nat} (h:i<l.length):ao l[i] = .int .u8 (aJ l i:Int):=by
 rw[lJ h]
 rfl
theorem Cd (i n:Nat):Int.tdiv (i:Int) (n:Int)=((i/n:Nat):Int):=by
 rw[Int.tdiv_eq_ediv_of_nonneg (by omega)]
 rfl
theorem dL (i n:Nat):Int.tmod (i:Int) (n:Int)=((i%n:Nat):Int):=by
 rw[Int.tmod_eq_emod_of_nonneg (by omega)]
 rfl
theorem kI (i n:Nat) (h:i≤4611686018427387904):IntKind.i64.wrap (Int.tdiv (i:Int) (n:Int))=((i/n:Nat):Int):=by
 have:=Nat.div_le_self i n
 rw[Cd]
 generalize i/n=m at *
 rw[wrap_i64 (by omega)]
def dm (l:List UInt8) (k m:Nat):List UInt8:=l.set k (UInt8.ofNat m)
theorem dn (l:List UInt8) (k m:Nat):(dm l k m).length=l.length:=by simp[dm]
theorem dy {l:List UInt8} {k m:Nat} (hk:k<l.length) (hm:m<256) (j:Nat):aJ (dm l k m) j=if j=k then m else aJ l j:=by
 unfold aJ dm
 rw[List.getD_eq_getElem?_getD,List.getD_eq_getElem?_getD,List.getElem?_set]
 by_cases h:k=j
 · subst h
   simp[hk]
   omega
 · rw[if_neg h,if_neg (fun e=>h e.symm)]
theorem map_set (l:List UInt8) (k:Nat) (x:UInt8):(l.set k x).map ao=(l.map ao).set k (ao x):=by
 apply List.ext_getElem?
 intro i
 simp only[List.getElem?_map,List.getElem?_set,List.length_map]
 split
 · split<;>simp
 · rfl
theorem AH {l:List UInt8} {Z:List Value} {k:Nat} (hk:k<l.length) (m:Nat) (hm:m<256):laid (l.map ao++Z) k [.int .u8 (m:Int)]=(dm l k m).map ao++Z:=by
 have hx:ao (UInt8.ofNat m) = .int .u8 (m:Int):=by
  unfold ao
  have:(UInt8.ofNat m).toNat=m:=by simp;omega
  rw[this]
 apply List.ext_getElem?
 intro j
 rw[nJ (by simp;omega)]
 unfold dm
 rw[map_set,hx]
 by_cases hj:j=k
 · subst hj
   rw[if_pos (by simp),List.getElem?_append_left (by simp;omega)]
   simp[hk]
 · rw[if_neg (by simp;omega)]
   by_cases hl:j<l.length
   · rw[List.getElem?_append_left (by simpa using hl),List.getElem?_append_left (by simpa using hl),List.getElem?_set_ne (fun e=>hj e.symm)]
   · rw[List.getElem?_append_right (by simp;omega),List.getElem?_append_right (by simp;omega)]
     simp
def Hd.sub (h:Hd) (l:Nat):Hd:=⟨uI h.a l h.c 1,h.c - l⟩
def cut (d:List UInt8) (l k:Nat):List UInt8:=(d.drop l).take k
theorem aZ {d:List UInt8} {l k:Nat} (h:l+k≤d.length):(cut d l k).length=k:=by simp[cut];omega
theorem a8 {d:List UInt8} {l k:Nat} (h:l+k≤d.length) {i:Nat} (hi:i<k):aJ (cut d l k) i=aJ d (l+i):=by
 unfold aJ cut
 rw[List.getD_eq_getElem?_getD,List.getD_eq_getElem?_getD,List.getElem?_take,if_pos hi,List.getElem?_drop]
theorem tZ {d:List UInt8} {a n r m:Nat} (h:r+m≤n):cut (cut d a n) r m=cut d (a+r) m:=by
 unfold cut
 rw[List.drop_take,List.take_take,List.drop_drop,Nat.min_eq_left (by omega)]
theorem By.sub {w:World} {h:Hd} {d:List UInt8} (hb:By w h d) {l k:Nat} (hl:l+k≤h.c):By w (Hd.sub h l) (cut d l k):=by
 have:=aB.cut (l:=l) (hi:=l+k) (m:=h.c) (size:=1) hb ⟨by omega,hl⟩
 rw[Nat.mul_one,Nat.add_sub_cancel_left,Nat.mul_one] at this
 unfold By Hd.sub cut
 rw[List.map_take,List.map_drop]
 exact this
theorem Hd.eu {h:Hd} {m l k:Nat} (hh:h.Ok m) (hl:l+k≤m):(Hd.sub h l).Ok k:=by
 have:=hh.cap
 refine⟨fun h0=>?_,by unfold Hd.sub;dsimp only;omega⟩
 have:=hh.nil (Ak h0)
 omega
variable {P:Program} {aK:fk} {w0:World} {R:Nat→Nat→Prop} {av:Nat→Prop} {bs:List (Nat×Nat)} {cs:List (List Value)} {F:Fx}
theorem ai.cy (hT:bn P aK) {t:TypeId} {ti:TI} (ht:Sx.look aK t=some ti) (hk:ti.k.agg=false) {a:Option Addr} {ad p:Addr} {l:List UInt8} {j:Nat} {K:Value→Prop} (had:a=some ad)
 (hs:bp w0 R av bs cs F a (l.map ao)) (hp:p=ad.add j) (hj:j<l.length) (hK:K (.int .u8 (aJ l j:Int))):ai P w0 R av (Instr.loadAt t (.pointer (some p))) bs cs F K:=by
 subst had
 refine ai.load hT ht hk hs hp (v:=ao l[j]) (by simp[hj]) ?_
 rw[zQ hj]
 exact hK
theorem bp.bytes {b:Nat} {l:List UInt8} {Z:List Value} (h:(b,Row.c (l.map ao++Z))∈F.rs):bp w0 R av bs cs F (some ⟨b,0,none⟩) (l.map ao):=
 ((
  bp.row h).take l.length).eq (by
  have e:l.length=(l.map ao).length:=by simp
  rw[e,List.take_left])
theorem a_.cC (hT:bn P aK) {t:TypeId} {ti:TI} (ht:look aK t=some ti) (hsz:ti.size=1) {D:World→Prop} {r1 r2:List (Nat×Row)} {b k:Nat} {l:List UInt8} {Z:List Value} {n:Int} {p:Addr} {K:KU} (m:Nat) (hp:p=⟨b,k,none⟩)
 (hn:n=(m:Int)) (hm:m<256) (hk:k<l.length) (h:K bs cs ⟨D,r1 ++ [(b,Row.c ((dm l k m).map ao++Z))]++r2⟩) :
 a_ P w0 R av (Instr.storeAt t (.pointer (some p)) (.int .u8 n)) bs cs ⟨D,r1 ++ [(b,Row.c (l.map ao++Z))]++r2⟩ K:=by
 subst hn
 refine a_.cE hT ht (k:=k) hp (by simp[Value.cells,hsz]) (by simp[Value.cells,aO]) (by rw[hsz];simp;omega) ?_
 have:(Value.int .u8 (m:Int)).cells.toList = [.int .u8 (m:Int)]:=rfl
 rw[this,AH hk m hm]
 exact h
theorem Own.split {n b cap:Nat} {C L:List Value} (h:Own 1 n (some ⟨b,0,none⟩) cap C L) : ∃ Z,C=L++Z∧Z.length=cap - n∧n≤cap:=by
 rcases h.alt with⟨h1,_⟩ | ⟨b',_,h2,h3⟩
 · cases h1
 · rw[Nat.mul_one] at h2 h3
   refine⟨C.drop n,?_,by simp;omega,h.fit⟩
   rw[← h3,List.take_append_drop]
theorem aj.eQ (hT:bn P aK) {t xt ty:TypeId} {ti tx te:TI} {e xe:TypeId} (ht:look aK t=some ti) (hk:ti.k = .slice e) (hx:look aK xt=some tx) (hxk:tx.k = .slice xe) (he:look aK e=some te)
 (hsz:te.size=1) (hzl:te.zero.length=1) (hby:te.bytes=1) {a p:Option Addr} {cx:Nat} {l:List UInt8} {K:KV} (hM:bp w0 R av bs cs F p (l.map ao)) (h0:0<l.length) (hlen:l.length≤1000000)
 (h : ∀ b cap Z,l.length≤cap→Z.length=cap - l.length→K (.slice (some ⟨b,0,none⟩) l.length cap) bs cs ⟨F.D,F.rs ++ [(b,Row.c (l.map ao++Z))]⟩) :
 aj P w0 R av (Builtin.append_ #[t,xt] ty #[.slice a 0 0,.slice p l.length cx]) bs cs F K:=by
 refine aj.lK hT ht hk hx hxk he (by rw[hzl,hsz]) (L:=[]) (fun w _=>aB.zw _) (by simp) hM (by simp[hsz]) (by omega) (by omega) (by rw[hby];omega) fun b cap' C' hO=>?_
 rw[hsz] at hO
 obtain⟨Z,rfl,hZ,hfit⟩:=Own.split hO
 rw[Nat.zero_add] at hZ hfit ⊢
 rw[List.nil_append]
 exact h b cap' Z hfit hZ
theorem wR (b j:Nat):(⟨b,0,none⟩:Addr).add j=⟨b,j,none⟩:=by rw[Addr.aV,Nat.zero_add]
theorem ai.jf (hT:bn P aK) {t:TypeId} {ti te:TI} {e:TypeId} (ht:look aK t=some ti) (hk:ti.k = .slice e) (he:look aK e=some te) (hsz:te.size=1) {b n c:Nat} {k:IntKind} {i:Int} {K:Value→Prop}
 (j:Nat) (hj:i=(j:Int)) (h1:j<n) (h:K (.pointer (some ⟨b,j,none⟩))):ai P w0 R av (Instr.indexAt t (.slice (some ⟨b,0,none⟩) n c) (.int k i)) bs cs F K:=by
 subst hj
 refine ai.index hT ht hk he (by omega) (by omega) (fun h=>by cases h) fun ad had=>?_
 cases had
 rw[hsz,Nat.mul_one,Int.toNat_natCast,wR]
 exact h
theorem ai.sM (hT:bn P aK) {t:TypeId} {ti:TI} (ht:look aK t=some ti) (hk:ti.k.agg=false) {b j:Nat} {l:List UInt8} {K:Value→Prop}
 (hs:bp w0 R av bs cs F (some ⟨b,0,none⟩) (l.map ao)) (hj:j<l.length) (hK:K (.int .u8 (aJ l j:Int))):ai P w0 R av (Instr.loadAt t (.pointer (some ⟨b,j,none⟩))) bs cs F K:=
 ai.cy hT ht hk rfl hs (by rw[wR]) hj hK
theorem aq.kr {D:World→Prop} {r1 r2:List (Nat×Row)} {b:Nat} {l:List UInt8} {Z:List Value}:aq ⟨D,r1 ++ [(b,Row.c (l.map ao++Z))]++r2⟩ ⟨fun w=>aB w (some ⟨b,0,none⟩) (l.map ao),[]⟩:=by
 have h1:aq ⟨D,r1 ++ [(b,Row.c (l.map ao++Z))]++r2⟩ ⟨D,[(b,Row.c (l.map ao++Z))]⟩:=aq.of_le ⟨?_,fun w h=>h⟩
 refine h1.trans (aq.share1.trans (aq.imp fun w h=>?_))
 rotate_left
 · rw[List.append_assoc]
   exact(List.sublist_append_left _ _).trans (List.sublist_append_right _ _)
 have:=h.2.take l.length
 have e:l.length=(l.map ao).length:=by simp
 rw[e,List.take_left] at this
 exact this
theorem mZ {D:World→Prop} {r1 r2:List (Nat×Row)} {b n c:Nat} {l:List UInt8} {Z:List Value} (hn:n=l.length) (hc:n≤c) : ∃ F',aq ⟨D,r1 ++ [(b,Row.c (l.map ao++Z))]++r2⟩ F'∧lq l (.slice (some ⟨b,0,none⟩) n c) F':=by
 subst hn
 exact⟨⟨fun w=>aB w (some ⟨b,0,none⟩) (l.map ao),[]⟩,aq.kr,⟨some ⟨b,0,none⟩,c⟩,rfl,⟨fun h=>(by cases h),hc⟩,rfl⟩
theorem ai.pD (hT:bn P aK) {t:TypeId} {ti te:TI} {e:TypeId} (ht:look aK t=some ti) (hk:ti.k = .slice e) (he:look aK e=some te) (hsz:te.size=1) {h:Hd} {n:Nat} {k1 k2:IntKind} {lo hi:Int} {K:Value→Prop}
 (l k:Nat) (hl:lo=(l:Int)) (hh:hi=((l+k:Nat):Int)) (hle:l+k≤h.c) (hK:K ((Hd.sub h l).v k)) :
 ai P w0 R av (Instr.sliceAt t (h.v n) (some (.int k1 lo)) (some (.int k2 hi)) none) bs cs F K:=by
 subst hl hh
 refine ai.slice hT ht hk he (lo:=some _) (hi:=some _) (mx:=none) (k1:=k1) (k2:=k2) (k3:=.i64) l (l+k) h.c rfl rfl rfl (by omega) hle (Nat.le_refl _) (by simp) ?_
 rw[Nat.add_sub_cancel_left,hsz]
 exact hK
theorem ai.gA (hT:bn P aK) {t:TypeId} {ti te:TI} {e:TypeId} (ht:look aK t=some ti) (hk:ti.k = .slice e) (he:look aK e=some te) {h:Hd} {n:Nat} {k2:IntKind} {hi:Int} {K:Value→Prop}
 (k:Nat) (hh:hi=(k:Int)) (hle:k≤h.c) (hK:K (h.v k)) :
 ai P w0 R av (Instr.sliceAt t (h.v n) none (some (.int k2 hi)) none) bs cs F K:=by
 subst hh
 refine ai.slice hT ht hk he (lo:=none) (hi:=some _) (mx:=none) (k1:=.i64) (k2:=k2) (k3:=.i64) 0 k h.c rfl rfl rfl (by omega) hle (Nat.le_refl _) (by simp) ?_
 rw[sX,Nat.sub_zero,Nat.sub_zero]
 exact hK
theorem ai.gD (hT:bn P aK) {t:TypeId} {ti te:TI} {e:TypeId} (ht:look aK t=some ti) (hk:ti.k = .slice e) (he:look aK e=some te) (hsz:te.size=1) {h:Hd} {n:Nat} {k1:IntKind} {lo:Int} {K:Value→Prop}
 (l:Nat) (hl:lo=(l:Int)) (hle:l≤n) (hn:n≤h.c) (hK:K ((Hd.sub h l).v (n - l))) :
 ai P w0 R av (Instr.sliceAt t (h.v n) (some (.int k1 lo)) none none) bs cs F K:=by
 subst hl
 refine ai.slice hT ht hk he (lo:=some _) (hi:=none) (mx:=none) (k1:=k1) (k2:=.i64) (k3:=.i64) l n h.c rfl rfl rfl (by omega) hn (Nat.le_refl _) (by simp) ?_
 rw[hsz]
 exact hK
theorem af.weaken {f:FuncId} {vs:List Value} {Pre:World→Prop} {Rel Rel':Value→Fx→Prop} (h:af P f vs Pre Rel) (hr : ∀ v F,Rel v F→∃ F',aq F F'∧Rel' v F'):af P f vs Pre Rel':=by
 unfold af at h ⊢
 refine⟨h.1,fun av w hav hp=>(h.2 av w hav hp).mono ?_⟩
 rintro e w' ⟨v,F,rfl,hk,hF,hR⟩
 obtain⟨F',hE,hR'⟩:=hr v F hR
 have hst:St w (fun _ _=>False) av w' [] [] F:=⟨hk,trivial,by simpa using hF.nd,fun i hi=>by simp at hi,hav,fun r hr=>⟨(hF.rows r hr).1,.inl (hF.rows r hr).2⟩,
  hF.data.less fun b hb=>hb.elim .inl fun h=>h.elim (fun⟨x,hx,_⟩=>by simp at hx) .inr⟩
 exact⟨v,F',rfl,hk,(hst.c_ hE).fx fun b=>⟨0,id⟩,hR'⟩
def vq (l:List UInt8) (v:Value) (F:Fx):Prop:=∃ b cap Z,v = .slice (some ⟨b,0,none⟩) l.length cap∧l.length≤cap∧F=⟨fun _=>True,[(b,Row.c (l.map ao++Z))]⟩
theorem la {D:World→Prop} {r1 r2:List (Nat×Row)} {b n c:Nat} {l:List UInt8} {Z:List Value} (hn:n=l.length) (hc:n≤c) : ∃ F',aq ⟨D,r1 ++ [(b,Row.c (l.map ao++Z))]++r2⟩ F'∧vq l (.slice (some ⟨b,0,none⟩) n c) F':=by
 subst hn
 refine⟨⟨fun _=>True,[(b,Row.c (l.map ao++Z))]⟩,aq.of_le ⟨?_,fun w h=>trivial⟩,b,c,Z,rfl,hc,rfl⟩
 rw[List.append_assoc]
 exact(List.sublist_append_left _ _).trans (List.sublist_append_right _ _)
theorem af.EE {f:FuncId} {vs:List Value} {Pre:World→Prop} {l:List UInt8} (h:af P f vs Pre (vq l)):af P f vs Pre (lq l):=
 h.weaken fun v F ⟨b,cap,Z,hv,hc,hF⟩=>by
  subst hv hF
  exact mZ (r1:=[]) (r2:=[]) rfl hc
def lay (l:List UInt8) (k:Nat) (m:List UInt8):List UInt8:=l.take k++m++l.drop (k+m.length)
theorem ct {l m:List UInt8} {k:Nat} (h:k+m.length≤l.length):(lay l k m).length=l.length:=by
 simp[lay]
 omega
theorem cu {l m:List UInt8} {k:Nat} (h:k+m.length≤l.length) (i:Nat):aJ (lay l k m) i=if k≤i∧i<k+m.length then aJ m (i - k) else aJ l i:=by
 unfold aJ lay
 simp only[List.getD_eq_getElem?_getD]
 by_cases h1:i<k
 · rw[if_neg (by omega),List.append_assoc,List.getElem?_append_left (by simp;omega),List.getElem?_take,if_pos h1]
 · by_cases h2:i<k+m.length
   · rw[if_pos (by omega),List.append_assoc,List.getElem?_append_right (by simp;omega),List.getElem?_append_left (by simp;omega)]
     congr 3
     simp
     omega
   · rw[if_neg (by omega),List.getElem?_append_right (by simp;omega),List.getElem?_drop]
     congr 3
     simp
     omega
theorem jW {l m:List UInt8} {Z:List Value} {k:Nat} (h:k+m.length≤l.length):laid (l.map ao++Z) k (m.map ao)=(lay l k m).map ao++Z:=by
 unfold laid lay
 rw[List.take_append_of_le_length (by simp;omega),List.drop_append_of_le_length (by simp;omega)]
 simp[List.map_take,List.map_drop]
theorem aj.qe (hT:bn P aK) {t xt ty:TypeId} {ti te:TI} {e:TypeId} (ht:look aK t=some ti) (hk:ti.k = .slice e) (he:look aK e=some te) (hsz:te.size=1) {D:World→Prop} {r1 r2:List (Nat×Row)} {b k n c ml:Nat} {l m:List UInt8} {Z:List Value} {p:Addr}
 {q:Option Addr} {cx:Nat} {K:KV} (hp:p=⟨b,k,none⟩) (hM:bp w0 R av bs cs ⟨D,r1 ++ [(b,Row.c (l.map ao++Z))]++r2⟩ q (m.map ao)) (hml:m.length=ml) (hmn:ml≤n) (hle:k+ml≤l.length)
 (h:K (.int .i64 (ml:Int)) bs cs ⟨D,r1 ++ [(b,Row.c ((lay l k m).map ao++Z))]++r2⟩) :
 aj P w0 R av (Builtin.copy_ #[t,xt] ty #[.slice (some p) n c,.slice q ml cx]) bs cs ⟨D,r1 ++ [(b,Row.c (l.map ao++Z))]++r2⟩ K:=by
 subst hml
 have e1:min m.length n=m.length:=Nat.min_eq_left hmn
 refine aj.DX hT ht hk he hp hM (by simp[hsz]) (fun v hv=>gm v hv) (by rw[e1,hsz];simp;omega) ?_
 rw[e1,hsz,Nat.mul_one,List.take_of_length_le (by simp),jW hle]
 exact h
theorem dO {b c l:Nat} (h:c≠l):Hd.sub ⟨some ⟨b,0,none⟩,c⟩ l=⟨some ⟨b,l,none⟩,c - l⟩:=by
 unfold Hd.sub uI
 rw[if_neg h]
 simp[Addr.aV]
theorem Bj {n m:Nat} (h:n%256=m%256):ao (UInt8.ofNat n) = .int .u8 ((m%256:Nat):Int):=by
 unfold ao
 have:(UInt8.ofNat n).toNat=n%256:=by simp
 rw[this,h]
theorem wrap_u8 (n:Nat):IntKind.u8.wrap (n:Int)=((n%256:Nat):Int):=by
 simp[IntKind.wrap,IntKind.bits,IntKind.signed]
theorem lG (n:Nat):Value.int .u8 (IntKind.u8.wrap (n:Int))=ao (UInt8.ofNat n):=by
 rw[wrap_u8,Bj rfl]
end Go.Sx
