/- Parts of the proof: SyA, SyB, SyC, SyD, SyE, SyF, SyG, SyH, SyI, SyJ, SyM, SyN. -/
import Derived.Test.YtlnhdpjnlffaoaaGreatDoorQB
import Derived.MapKept
import Derived.Maps.RangeRun
namespace Go.Sx
open Go
set_option linter.unusedVariables false
variable {P:Program} {aY:er} {w0:World} {R:Nat→Nat→Prop} {av:Nat→Prop} {bs:List (Nat×Nat)} {cs:List (List Value)} {F:Fx}
structure BK (bs bs':List (Nat×Nat)) (K:Prop):Prop where
 ext : ∃ e,bs'=bs++e
 rest:K
theorem BK.of {K:Prop} (e:List (Nat×Nat)) (h:K):BK bs (bs++e) K:=⟨⟨e,rfl⟩,h⟩
def zd (bs:List (Nat×Nat)):List SV→List Value→Prop
 | [],[]=>True
 | s::ss,v::vs=>dt bs s v∧zd bs ss vs
 | _,_=>False
theorem ru : ∀ {svs:List SV} {vs:List Value},zd bs svs vs→svs.length=vs.length∧∀ i,i<vs.length→dt bs (nth .any svs i) (nth undef vs i)
 | [],[],_=>⟨rfl,fun i h=>by simp at h⟩
 | s::ss,v::vs,h=>by
  obtain⟨h1,h2⟩:=ru h.2
  refine⟨by simp[h1],fun i hi=>?_⟩
  cases i with
  | zero=>exact h.1
  | succ i=>exact h2 i (by simpa using hi)
 | [],_::_,h=>h.elim
 | _::_,[],h=>h.elim
theorem aP.bZ {m:Sem Unit} {K:KU} {F':Fx} (h:ax F F') (k:aP P w0 R av m bs cs F' K):aP P w0 R av m bs cs F K:=
 eZ.2 fun w hst=>eZ.1 k w (h _ _ _ _ _ _ hst)
theorem ak.aH (hT:bB P aY) {t:TypeId} {ti:TI} (ht:look aY t=some ti) (hk:ti.k.agg=false) {p ad:Addr} {k:Nat} {L:List Value} {v:Value} {K:Value→Prop}
 (hs:aK w0 R av bs cs F (some ad) L) (hp:ad.spot=none→p=ad.add k) (hv:L[k]? = some v) (h:K v):ak P w0 R av (Instr.loadAt t (.pointer (some p))) bs cs F K:=by
 refine(bc _ _ _ _).2 ⟨v,fun w hst=>?_,h⟩
 have hr:=hs w hst
 have hlt:k<L.length:=(List.getElem?_eq_some_iff.1 hv).1
 rw[hp (hr.there (ne_of_lt hlt)).1]
 show(loadVar t (ad.add k)).run P w=_
 exact ef (hT _ _ ht) hk (by rw[hr.cell hlt,hv])
theorem St.B7 {w:World} (h:St w0 R av w bs cs F):St w0 R av { w with heap:=w.heap.push (.map #[] 0) } bs cs ⟨F.D,F.rs ++ [(w.heap.size,Row.m #[] 0)]⟩:=by
 have hk:gj w { w with heap:=w.heap.push (.map #[] 0) }:=
  iv rfl rfl rfl (by simp) (fun b hb=>by simp[Array.getElem?_push,Nat.ne_of_lt hb])
 refine(h.kept (F':=⟨fun _=>True,[(w.heap.size,Row.m #[] 0)]⟩) hk ⟨fun r hr=>?_,by simp,.pure trivial⟩).bZ (ax.imp fun w h=>h.1)
 simp at hr
 subst hr
 exact⟨by simp[fZ],Nat.le_refl _⟩
theorem ar.makeMap {t:TypeId} {K:KV} (h : ∀ b,K (.map (some b)) bs cs ⟨F.D,F.rs ++ [(b,Row.m #[] 0)]⟩):ar P w0 R av (Instr.makeMap t none) bs cs F K:=
 cM.2 fun w hst=>⟨_,_,[],cs,_,rfl,by rw[List.append_nil];exact hst.B7,by rw[List.append_nil];exact h _⟩
theorem kn {d:TypeDesc} {k e:TypeId} (h:dK d = .map k e):d = .map k e:=by
 cases d<;>simp[dK] at h
 obtain⟨rfl,rfl⟩:=h
 rfl
def laid (C:List Value) (k:Nat) (l:List Value):List Value:=C.take k++l++C.drop (k+l.length)
theorem kB {C l:List Value} {k:Nat} (h:k+l.length≤C.length):(laid C k l).length=C.length:=by
 simp[laid]
 omega
theorem ie {C l:List Value} {k:Nat} (h:k+l.length≤C.length) (j:Nat):(laid C k l)[j]? = if k≤j∧j<k+l.length then l[j - k]? else C[j]?:=by
 unfold laid
 by_cases hin:k≤j∧j<k+l.length
 · rw[if_pos hin,List.append_assoc,List.getElem?_append_right (by simp;omega),List.getElem?_append_left (by simp;omega)]
   congr 1
   simp
   omega
 · rw[if_neg hin]
   by_cases hlt:j<k
   · rw[List.append_assoc,List.getElem?_append_left (by simp;omega),List.getElem?_take,if_pos hlt]
   · rw[List.getElem?_append_right (by simp;omega),List.getElem?_drop]
     congr 1
     simp
     omega
theorem St.w7 {w w':World} {D:World→Prop} {r1 r2:List (Nat×Row)} {b:Nat} {C l:List Value} {k:Nat} (hst:St w0 R av w bs cs ⟨D,r1 ++ [(b,Row.c C)]++r2⟩) (hone : ∀ v∈l,a7 v=true) (hle:k+l.length≤C.length) :
 ∃ w',(storeCells ⟨b,k,none⟩ l 0).run P w = .ok () w'∧St w0 R av w' bs cs ⟨D,r1 ++ [(b,Row.c (laid C k l))]++r2⟩:=by
 obtain⟨et,hrow⟩:=(hst.rows (b,Row.c C) (by simp)).1
 obtain⟨w',g1,g2,g3,g4,g5,g6,arr',g7,g8,g9⟩:=eI (P:=P) (b:=b) (o:=k) l 0 w C.toArray et hrow hone (by simpa using hle)
 refine⟨w',g1,hst.putRow (C':=Row.c (laid C k l)) g2 g3 g4 g5 g6 ⟨et,?_⟩ fun l' hl=>⟨⟨_,rfl⟩,et,_,_,hrow,g7,g8⟩⟩
 rw[g7]
 congr 2
 apply Array.ext_getElem?
 intro j
 rw[g9 j]
 simp only[List.getElem?_toArray,Nat.add_zero]
 rw[ie hle]
theorem aP.cO (hT:bB P aY) {t:TypeId} {ti:TI} (ht:look aY t=some ti) {D:World→Prop} {r1 r2:List (Nat×Row)} {b k:Nat} {C:List Value} {v:Value} {p:Addr} {K:KU} (hp:p=⟨b,k,none⟩)
 (hl:v.cells.toList.length=ti.size) (hone : ∀ u∈v.cells.toList,a7 u=true) (hle:k+ti.size≤C.length) (h:K bs cs ⟨D,r1 ++ [(b,Row.c (laid C k v.cells.toList))]++r2⟩) :
 aP P w0 R av (Instr.storeAt t (.pointer (some p)) v) bs cs ⟨D,r1 ++ [(b,Row.c C)]++r2⟩ K:=by
 subst hp
 refine eZ.2 fun w hst=>?_
 obtain⟨i,d,z,h1,h2,h3,h4,h5,-,-,-⟩:=aN (hT _ _ ht)
 obtain⟨w',g1,g2⟩:=St.w7 (P:=P) (w':=w) hst hone (by rw[hl];exact hle)
 refine⟨w',[],cs,_,?_,by rw[List.append_nil];exact g2,by rw[List.append_nil];exact h⟩
 show(storeVar t ⟨b,k,none⟩ v).run P w=_
 unfold storeVar
 rw[an (run_sizeOf h1 w)]
 have : ¬ v.cells.size≠i.size:=by
  have:v.cells.toList.length=v.cells.size:=by simp
  omega
 rw[if_neg this]
 exact g1
end Go.Sx
namespace Go.Sx
open Go
set_option linter.unusedVariables false
variable {P:Program} {aY:er} {w0:World} {R:Nat→Nat→Prop} {av:Nat→Prop} {bs:List (Nat×Nat)} {cs:List (List Value)} {F:Fx}
def Loc (D:World→Prop):Prop:=∀ w w':World,(∀ b,b<w.heap.size→w'.heap[b]? = w.heap[b]?)→D w→D w'
theorem Loc.row (a:Option Addr) (L:List Value):Loc fun w=>ai w a L:=by
 intro w w' hw h
 cases a with
 | none=>exact h
 | some ad=>
  rcases h with rfl | ⟨h1,arr,e,fz,h2,h3⟩
  · exact .inl rfl
  exact .inr ⟨h1,arr,e,fz,by rw[hw _ (Array.getElem?_eq_some_iff.1 h2).1];exact h2,h3⟩
theorem Loc.and {D E:World→Prop} (h:Loc D) (k:Loc E):Loc fun w=>D w∧E w:=fun w w' hw hd=>⟨h w w' hw hd.1,k w w' hw hd.2⟩
theorem Loc.all {α:Type} {l:List α} {D:α→World→Prop} (h : ∀ x∈l,Loc (D x)):Loc fun w=>∀ x∈l,D x w:=fun w w' hw hd x hx=>h x hx w w' hw (hd x hx)
theorem aw.from {f:FuncId} {vs:List Value} {Pre:World→Prop} {Rel:Value→Fx→Prop} {K:KV} (spec:af P f vs Pre Rel) (hloc:Loc Pre) (hpre : ∀ w,St w0 R av w bs cs F→Pre w)
 (h : ∀ v F',Rel v F'→(∀ w,F'.D w)∧K v bs cs (F.and F')):aw P w0 R av f vs bs cs F K:=by
 unfold af at spec
 refine cQ.2 ⟨spec.1,fun w hst=>?_⟩
 refine(spec.2 (fun _=>False) w (fun _ h=>h.elim) ⟨fun b=>b<w.heap.size,fun b hb=>⟨hb,id⟩,fun w' hw=>hloc w w' hw (hpre w hst)⟩).mono ?_
 rintro e w' ⟨v,F',rfl,h1,h2,h3⟩
 obtain⟨h4,h5⟩:=h v F' h3
 exact⟨v,[],cs,_,rfl,by rw[List.append_nil];exact hst.kept h1 ⟨h2.rows,h2.nd,⟨fun _=>False,fun _ h=>h.elim,fun w _=>h4 w⟩⟩,by rw[List.append_nil];exact h5⟩
theorem aw.look {f:FuncId} {vs:List Value} {Pre:World→Prop} {x:Value} {K:KV} (spec:af P f vs Pre (fun v _=>v=x)) (hloc:Loc Pre) (hpre : ∀ w,St w0 R av w bs cs F→Pre w)
 (h:K x bs cs F):aw P w0 R av f vs bs cs F K:=by
 unfold af at spec
 refine cQ.2 ⟨spec.1,fun w hst=>?_⟩
 refine(spec.2 (fun _=>False) w (fun _ h=>h.elim) ⟨fun b=>b<w.heap.size,fun b hb=>⟨hb,id⟩,fun w' hw=>hloc w w' hw (hpre w hst)⟩).mono ?_
 rintro e w' ⟨v,F',rfl,h1,h2,rfl⟩
 exact⟨_,[],cs,_,rfl,by rw[List.append_nil];exact hst.ra h1,by rw[List.append_nil];exact h⟩
end Go.Sx
namespace Go.Sx
open Go
set_option linter.unusedVariables false
set_option linter.unusedSimpArgs false
variable {P:Program} {aY:er} {w0:World} {R:Nat→Nat→Prop} {av:Nat→Prop} {bs:List (Nat×Nat)} {cs:List (List Value)}
structure BL (bs bs':List (Nat×Nat)) (cs':List (List Value)) (F':Fx) (K:List (List Value)→Fx→Prop):Prop where
 ext : ∃ e c1 c2 F1,bs'=bs++e∧cs'=c1++c2∧bs.length=c1.length∧ax F' F1∧K c1 F1
theorem aw.wN {F:Fx} (hT:bB P aY) {f:FuncId} {fn:Func} (hfn:P.funcs[f]? = some fn) {c:Code} (hb:fn.body=some c) (hnm:(fn.name == "runtime.NumGoroutine")=false) {vs:List Value} (svs:List SV)
 {n:Nat} (hn:fn.ntmps=vs.length+n) (hargs:zd bs svs vs) {K:KV}
 (h:tE svs n fun tm=>xc P aY w0 R av c tm bs cs F (lz aY fn.results.toList fun v bs' cs' F'=>BL bs bs' cs' F' fun c1 F1=>K v bs c1 F1)):aw P w0 R av f vs bs cs F K:=by
 have h2:aw P w0 R av f vs bs cs F fun v bs' cs' F'=>BL bs bs' cs' F' fun c1 F1=>K v bs c1 F1:=by
  obtain⟨hlen,hok⟩:=ru hargs
  refine cQ.2 ⟨⟨fn,hfn,by rw[hb];rfl,hnm⟩,fun w hst=>?_⟩
  have h:=nR h
  refine calls_of_wp hfn hb ?_
  have hfr:a_ bs (svs++List.replicate n .any) (vs.toArray++Array.replicate (fn.ntmps - vs.toArray.size) undef):=by
   refine⟨by simp;omega,fun t=>?_⟩
   rw[bw]
   by_cases ht:t<vs.length
   · rw[List.getElem?_append_left (by omega),← bw]
     have:=hok t ht
     rw[bw undef] at this
     have e:(vs.toArray++Array.replicate (fn.ntmps - vs.toArray.size) undef).getD t undef=(vs[t]?).getD undef:=by
      rw[Array.getD_eq_getD_getElem?,Array.getElem?_append_left (by simpa using ht)]
      simp
     rw[e]
     exact this
   · have:(svs++List.replicate n SV.any)[t]?.getD .any = .any:=by
      rw[List.getElem?_append_right (by omega),List.getElem?_replicate]
      split<;>rfl
     rw[this]
     exact trivial
  refine wp_mono (ga hT c _ _ _ _ _ _ _ h hfr hst) ?_
  rintro e act w' ⟨hd,tm',bs',cs',D',h1,h2,h3⟩
  cases e with
  | normal=>
   obtain⟨v,g1,g2⟩:=ez hT h1 h2.box (fun r hr=>(h2.rows r hr).1) h3
   obtain⟨x,c1,c2,F1,rfl,q⟩:=g2.ext
   exact⟨hd,v,g1,v,x,cs',D',rfl,h2,g2⟩
  | ret=>
   obtain⟨v,g1,g2⟩:=ez hT h1 h2.box (fun r hr=>(h2.rows r hr).1) h3
   obtain⟨x,c1,c2,F1,rfl,q⟩:=g2.ext
   exact⟨hd,v,g1,v,x,cs',D',rfl,h2,g2⟩
  | _=>exact h3.elim
 refine cQ.2 ⟨(cQ.1 h2).1,fun w hst=>((cQ.1 h2).2 w hst).mono ?_⟩
 rintro e w' ⟨v,ext,cs',D',rfl,g1,g2⟩
 obtain⟨x,c1,c2,F1,e1,rfl,e2,he,g3⟩:=g2.ext
 exact⟨v,[],c1,F1,rfl,by rw[List.append_nil];exact(g1.left e2).bZ he,by rw[List.append_nil];exact g3⟩
theorem wM : ∀ {n:Nat} {K:List SV→Prop},K (List.replicate n .any)→Bj n K
 | 0,K,h=>h
 | n+1,K,h=>wM (n:=n) (by simpa [List.replicate_succ] using h)
theorem nH : ∀ {l:List SV} {n:Nat} {K:List SV→Prop},K (l++List.replicate n .any)→tE l n K
 | [],n,K,h=>wM h
 | x::xs,n,K,h=>nH (l:=xs) h
theorem rh {P:Program} {aY:er} {w0:World} {R:Nat→Nat→Prop} {av:Nat→Prop} {id:Nat} {dst:Option Tmp} {e ty:TypeId} {pos:String} {after:Array Edge} {ti:TI} (ht:look aY e=some ti) (hb:uv ti=false) {c2:Code} {tm:List SV} {bs:List (Nat×Nat)} {cs:List (List Value)} {D:Fx} {K:Exit→KT}
 (h:yG dst ti.zero tm bs cs D fun tm bs cs D=>xc P aY w0 R av c2 tm bs cs D K) :
 xc P aY w0 R av (.seq (.region id #[⟨dst,.alloc e,ty,pos,after,none⟩] false) c2) tm bs cs D K:=by
 show(match look aY e with
  | some ti=>match uv ti with
   | true=>_
   | false=>yG dst ti.zero tm bs cs D fun tm bs cs D=>xc P aY w0 R av c2 tm bs cs D K
  | none=>_)
 rw[ht]
 simp only[hb]
 exact h
def su (rows:List (Nat×Row)) (b:Nat):Prop:=∃ r∈rows,r.1=b
def dh (P:Program) (f:FuncId) (vs:List Value) (rows:List (Nat×Row)) (Pre:World→Prop) (Rel:Value→Fx→Prop):Prop:=
 g_ P f∧∀ (av:Nat→Prop) (w:World),(∀ b,av b→b<w.heap.size)→(∀ r∈rows,fZ w r.1 r.2∧¬ av r.1)→(rows.map (·.1)).Nodup→Holds (fun b=>av b∨su rows b) w Pre→
  Calls P f vs.toArray w fun e w'=>∃ v F,e = .returned v∧dD (fun b _=>su rows b) w w'∧
   (∀ r∈F.rs,fZ w' r.1 r.2∧(w.heap.size≤r.1∨(su rows r.1∧CM r.2)))∧(F.rs.map (·.1)).Nodup∧Holds (fun b=>av b∨su F.rs b) w' F.D∧Rel v F
theorem dh.aG (hT:bB P aY) {f:FuncId} {fn:Func} (hfn:P.funcs[f]? = some fn) {c:Code} (hb:fn.body=some c) (hnm:(fn.name == "runtime.NumGoroutine")=false) {vs:List Value} {svs:List SV}
 {n:Nat} (hn:fn.ntmps=vs.length+n) (hsv:svs=vs.map SV.v) {rows:List (Nat×Row)} (hc : ∀ r∈rows,CM r.2) {Pre:World→Prop} {Rel:Value→Fx→Prop}
 (h : ∀ w0 av,tE svs n fun tm=>xc P aY w0 (fun b _=>su rows b) av c tm [] [] ⟨Pre,rows⟩ (lz aY fn.results.toList (eg Rel))):dh P f vs rows Pre Rel:=by
 subst hsv
 refine⟨⟨fn,hfn,by rw[hb];rfl,hnm⟩,fun av w hav hrows hnd hpre=>?_⟩
 have hst:St w (fun b _=>su rows b) av w [] [] ⟨Pre,rows⟩:=
  ⟨dD.refl _ _,trivial,by simpa using hnd,fun i hi=>by simp at hi,hav,fun r hr=>⟨(hrows r hr).1,.inr ⟨(hrows r hr).2,fun _=>⟨r,hr,rfl⟩,hc r hr⟩⟩,
   hpre.less fun b hb=>hb.elim .inl fun h=>h.elim (fun⟨x,hx,_⟩=>by simp at hx) .inr⟩
 refine(jh hT hfn hb hn (by simp) (fun i hi=>?_) hst (h w av)).mono ?_
 · rw[nI SV.v undef .any vs i hi];rfl
 · rintro e w' ⟨v,bs',cs',F,rfl,h1,F2,h2,h3⟩
   have h4:=h1.bZ h2
   refine⟨v,F2,rfl,h4.keep,fun r hr=>⟨(h4.rows r hr).1,(h4.rows r hr).2.imp id fun q=>⟨q.2.1 0,q.2.2⟩⟩,(List.nodup_append.1 h4.nd).2.1,h4.data.less fun b hb=>hb.elim .inl fun h=>.inr (.inr h),h3⟩
attribute [irreducible] dh
theorem aw.rows {f:FuncId} {vs:List Value} {rows:List (Nat×Row)} {Pre:World→Prop} {Rel:Value→Fx→Prop} {D:World→Prop} {r1 r2:List (Nat×Row)} {K:KV} (spec:dh P f vs rows Pre Rel)
 (hpre : ∀ w,D w→Pre w) (h : ∀ v F',Rel v F'→K v bs cs ⟨fun w=>D w∧F'.D w,r1++F'.rs++r2⟩):aw P w0 R av f vs bs cs ⟨D,r1++rows++r2⟩ K:=by
 unfold dh at spec
 refine cQ.2 ⟨spec.1,fun w hst=>?_⟩
 have hnd:=hst.nd
 have hmem : ∀ r,r∈r1++rows++r2↔r∈r1∨r∈rows∨r∈r2:=fun r=>by simp[or_assoc]
 simp only[List.map_append,List.nodup_append,List.mem_append] at hnd
 obtain⟨nb,⟨⟨n1,n0,n10⟩,n2,n12⟩,nbr⟩:=hnd
 have notb : ∀ r∈rows,∀ x∈bs,x.1≠r.1:=fun r hr x hx=>nbr _ (List.mem_map.2 ⟨x,hx,rfl⟩) _ (.inl (.inr (List.mem_map.2 ⟨r,hr,rfl⟩)))
 have not1 : ∀ r∈rows,∀ x∈r1,x.1≠r.1:=fun r hr x hx=>n10 _ (List.mem_map.2 ⟨x,hx,rfl⟩) _ (List.mem_map.2 ⟨r,hr,rfl⟩)
 have not2 : ∀ r∈rows,∀ x∈r2,x.1≠r.1:=fun r hr x hx e=>n12 _ (.inr (List.mem_map.2 ⟨r,hr,rfl⟩)) _ (List.mem_map.2 ⟨x,hx,rfl⟩) e.symm
 have notav : ∀ r∈rows,¬ av r.1:=fun r hr ha=>by
  rcases(hst.rows r ((hmem r).2 (.inr (.inl hr)))).2 with h | h
  · have:=hst.avlt _ ha
    omega
  · exact h.1 ha
 refine(spec.2 (fun b=>av b∨(∃ x∈bs,x.1=b)∨su r1 b∨su r2 b) w (fun b hb=>hst.DL ?_) (fun r hr=>⟨(hst.rows r ((hmem r).2 (.inr (.inl hr)))).1,?_⟩) n0 ?_).mono ?_
 · rcases hb with hb | hb | ⟨r,hr,rfl⟩ | ⟨r,hr,rfl⟩
   · exact .inl hb
   · exact .inr (.inl hb)
   · exact .inr (.inr ⟨r,(hmem r).2 (.inl hr),rfl⟩)
   · exact .inr (.inr ⟨r,(hmem r).2 (.inr (.inr hr)),rfl⟩)
 · rintro(hb | ⟨x,hx,he⟩ | ⟨x,hx,he⟩ | ⟨x,hx,he⟩)
   · exact notav r hr hb
   · exact notb r hr x hx he
   · exact not1 r hr x hx he
   · exact not2 r hr x hx he
 · refine(hst.data.imp hpre).less fun b hb=>?_
   rcases hb with(hb | hb | ⟨r,hr,rfl⟩ | ⟨r,hr,rfl⟩) | ⟨r,hr,rfl⟩
   · exact .inl hb
   · exact .inr (.inl hb)
   · exact .inr (.inr ⟨r,(hmem r).2 (.inl hr),rfl⟩)
   · exact .inr (.inr ⟨r,(hmem r).2 (.inr (.inr hr)),rfl⟩)
   · exact .inr (.inr ⟨r,(hmem r).2 (.inr (.inl hr)),rfl⟩)
 rintro e w' ⟨v,F',rfl,hk,hr',hnd',hd',hrel⟩
 have hsame : ∀ b,b<w.heap.size→¬ su rows b→w'.heap[b]? = w.heap[b]?:=fun b hb hn=>hk.same hb fun _=>hn
 refine⟨v,[],cs,_,rfl,?_,by rw[List.append_nil];exact h v F' hrel⟩
 rw[List.append_nil]
 have hold : ∀ x,(x∈r1∨x∈r2)→w'.heap[x.1]? = w.heap[x.1]?:=fun x hx=>by
  have hx':x∈r1++rows++r2:=(hmem x).2 (hx.elim .inl fun h=>.inr (.inr h))
  refine hsame _ (hst.rows x hx').1.lt ?_
  rintro⟨r,hr,he⟩
  rcases hx with hx | hx
  · exact not1 r hr x hx he.symm
  · exact not2 r hr x hx he.symm
 have hnew : ∀ r∈F'.rs,(∀ x∈bs,x.1≠r.1)∧(∀ x∈r1,x.1≠r.1)∧(∀ x∈r2,x.1≠r.1):=fun r hr=>by
  rcases(hr' r hr).2 with h1 | ⟨⟨q,hq,he⟩,_⟩
  · refine⟨fun x hx he=>?_,fun x hx he=>?_,fun x hx he=>?_⟩
    · have:=hst.box.lt x hx
      omega
    · have:=(hst.rows x ((hmem x).2 (.inl hx))).1.lt
      omega
    · have:=(hst.rows x ((hmem x).2 (.inr (.inr hx)))).1.lt
      omega
  · rw[← he]
    exact⟨notb q hq,not1 q hq,not2 q hq⟩
 refine⟨⟨hk.os.trans hst.keep.os,hk.tape.trans hst.keep.tape,hk.output.trans hst.keep.output,Nat.le_trans hst.keep.size hk.size,fun b o ho=>?_⟩,hst.box.of_same fun x hx=>hsame _ (hst.box.lt x hx) (fun⟨r,hr,he⟩=>notb r hr x hx he.symm),?_,hst.own,hst.avlt,fun r hr=>?_,Holds.and ?_ ?_⟩
 · obtain⟨o1,g1,s1⟩:=hst.keep.obj b o ho
   obtain⟨o2,g2,s2⟩:=hk.obj b o1 g1
   refine⟨o2,g2,s1.trans (s2.mono fun i hi=>?_)⟩
   obtain⟨r,hr,rfl⟩:=hi
   rcases(hst.rows r ((hmem r).2 (.inr (.inl hr)))).2 with h | h
   · have:=bG ho
     omega
   · exact h.2.1 i
 · simp only[List.map_append,List.nodup_append,List.mem_append]
   refine⟨nb,⟨⟨n1,hnd',?_⟩,n2,?_⟩,?_⟩
   · intro x hx y hy e
     obtain⟨z,hz,rfl⟩:=List.mem_map.1 hx
     obtain⟨r,hr,rfl⟩:=List.mem_map.1 hy
     exact(hnew r hr).2.1 z hz e
   · intro x hx y hy e
     obtain⟨z,hz,rfl⟩:=List.mem_map.1 hy
     rcases hx with hx | hx
     · exact n12 _ (.inl hx) _ hy e
     · obtain⟨r,hr,rfl⟩:=List.mem_map.1 hx
       exact(hnew r hr).2.2 z hz e.symm
   · intro x hx y hy e
     obtain⟨z,hz,rfl⟩:=List.mem_map.1 hx
     rcases hy with(hy | hy) | hy
     · exact nbr _ hx _ (.inl (.inl hy)) e
     · obtain⟨r,hr,rfl⟩:=List.mem_map.1 hy
       exact(hnew r hr).1 z hz e
     · exact nbr _ hx _ (.inr hy) e
 · simp only[List.mem_append] at hr
   rcases hr with(hr | hr) | hr
   · have:=hst.rows r ((hmem r).2 (.inl hr))
     exact⟨this.1.of_same (hold r (.inl hr)),this.2⟩
   · obtain⟨g1,g2⟩:=hr' r hr
     refine⟨g1,?_⟩
     rcases g2 with g2 | ⟨⟨q,hq,he⟩,g3⟩
     · exact .inl (Nat.le_trans hst.keep.size g2)
     · rcases(hst.rows q ((hmem q).2 (.inr (.inl hq)))).2 with g4 | g4
       · exact .inl (by rw[← he];exact g4)
       · exact .inr ⟨by rw[← he];exact g4.1,by rw[← he];exact g4.2.1,g3⟩
   · have:=hst.rows r ((hmem r).2 (.inr (.inr hr)))
     exact⟨this.1.of_same (hold r (.inr hr)),this.2⟩
 · refine hst.data.move hk.size (fun b hb hna=>hsame b hb fun⟨r,hr,he⟩=>hna (.inr (.inr ⟨r,(hmem r).2 (.inr (.inl hr)),he⟩))) fun b hb=>?_
   rcases hb with hb | hb | ⟨r,hr,rfl⟩
   · exact .inl (.inl hb)
   · exact .inl (.inr (.inl hb))
   · simp only[List.mem_append] at hr
     rcases hr with(hr | hr) | hr
     · exact .inl (.inr (.inr ⟨r,(hmem r).2 (.inl hr),rfl⟩))
     · rcases(hr' r hr).2 with g | ⟨⟨q,hq,he⟩,_⟩
       · exact .inr g
       · exact .inl (.inr (.inr ⟨q,(hmem q).2 (.inr (.inl hq)),he⟩))
     · exact .inl (.inr (.inr ⟨r,(hmem r).2 (.inr (.inr hr)),rfl⟩))
 · refine hd'.less fun b hb=>?_
   rcases hb with hb | hb | ⟨r,hr,rfl⟩
   · exact .inl (.inl hb)
   · exact .inl (.inr (.inl hb))
   · simp only[List.mem_append] at hr
     rcases hr with(hr | hr) | hr
     · exact .inl (.inr (.inr (.inl ⟨r,hr,rfl⟩)))
     · exact .inr ⟨r,hr,rfl⟩
     · exact .inl (.inr (.inr (.inr ⟨r,hr,rfl⟩)))
end Go.Sx
namespace Go.Sx
set_option linter.unusedVariables false
section
variable {P:Program} {aY:er} {w0:World} {av:Nat→Prop} {bs:List (Nat×Nat)} {cs:List (List Value)}
theorem u6 {w:World} {t e te:TypeId} {C:Array Value} {b n c:Nat} (ht:P.underlying t=some (.slice e)) (he:P.underlying e=some (.int .u8)) (hb:w.heap[b]? = some (.cells C te (0,0))) :
 (convert t t (.slice (some ⟨b,0,none⟩) n c)).run P w = .ok (.slice (some ⟨b,0,none⟩) n c) (w.freeze ⟨b,C.size,none⟩ 1):=by
 unfold convert
 rw[an (aM ht w),an (aM ht w)]
 simp only
 rw[an (aM he w)]
 have hsh:w.shape? b=some (te,C.size):=by
  unfold World.shape?
  rw[hb]
 have hm:(markStringish ⟨b,0,none⟩).run P w = .ok () (w.freeze ⟨b,C.size,none⟩ 1):=by
  unfold markStringish
  rw[an (m:=shape b) (a:=some (te,C.size)) (w':=w) (by show Result.ok (w.shape? b) w=_;rw[hsh])]
  rfl
 simp only[beq_self_eq_true]
 rw[an hm]
 rfl
theorem ar.lit (hT:bB P aY) {t e:TypeId} {ti te:TI} (ht:look aY t=some ti) (hk:ti.k = .slice e) (he:look aY e=some te) (hb8:te.k = .int .u8) {D:World→Prop} {r1 r2:List (Nat×Row)} {b n c:Nat} {C:List Value} {K:KV}
 (h:K (.slice (some ⟨b,0,none⟩) n c) bs cs ⟨fun w=>D w∧ai w (some ⟨b,0,none⟩) C,r1++r2⟩) :
 ar P w0 (fun _ _=>False) av (convert t t (.slice (some ⟨b,0,none⟩) n c)) bs cs ⟨D,r1 ++ [(b,Row.c C)]++r2⟩ K:=by
 refine cM.2 fun w hst=>?_
 obtain⟨i1,d1,z1,p1,p2,p3,p4,p5,p6,p7,p8⟩:=aN (hT _ _ ht)
 obtain⟨i2,d2,z2,q1,q2,q3,q4,q5,q6,q7,q8⟩:=aN (hT _ _ he)
 rw[p4] at hk
 rw[q4] at hb8
 obtain rfl:=da hk
 obtain rfl:=CB hb8
 have hm:(b,Row.c C)∈r1 ++ [(b,Row.c C)]++r2:=by simp
 obtain⟨⟨et,hb⟩,hown⟩:=hst.rows _ hm
 have hb0:w0.heap.size≤b:=hown.resolve_right fun h=>h.2.1 0
 have hlt:=bG hb
 refine⟨_,_,[],cs,⟨fun w=>D w∧ai w (some ⟨b,0,none⟩) C,r1++r2⟩,u6 p2 q2 hb,?_,by rw[List.append_nil];exact h⟩
 rw[List.append_nil]
 have hsh:ax ⟨D,r1 ++ [(b,Row.c C)]++r2⟩ ⟨fun w=>D w∧ai w (some ⟨b,0,none⟩) C,r1++r2⟩:=
  cZ.share (sz:=1) (n:=C.length) (cap:=C.length) (a:=some ⟨b,0,none⟩) (r1:=r1) (r2:=r2) (cZ.full (by simp))
 have h2:=hst.bZ hsh
 have hnd:=hst.nd
 simp only[List.map_append,List.map_cons,List.map_nil] at hnd
 have hnb : ∀ x∈bs,x.1≠b:=fun x hx he=>by
  rw[List.nodup_append] at hnd
  exact hnd.2.2 x.1 (List.mem_map.2 ⟨x,hx,rfl⟩) b (by simp) he
 have hnr : ∀ r,r∈r1∨r∈r2→r.1≠b:=fun r hr he=>by
  rw[List.nodup_append] at hnd
  have h8:=hnd.2.1
  rw[List.append_assoc,List.nodup_append] at h8
  rcases hr with hr | hr
  · exact h8.2.2 r.1 (List.mem_map.2 ⟨r,hr,rfl⟩) b (by simp) he
  · have:=h8.2.1
    simp only[List.singleton_append,List.nodup_cons] at this
    exact this.1 (List.mem_map.2 ⟨r,hr,he⟩)
 have hsz:(w.freeze ⟨b,C.toArray.size,none⟩ 1).heap.size=w.heap.size:=by
  unfold World.freeze
  rw[if_neg (by decide)]
  simp
 have hoth : ∀ k,k≠b→(w.freeze ⟨b,C.toArray.size,none⟩ 1).heap[k]? = w.heap[k]?:=fun k hk=>by
  unfold World.freeze
  rw[if_neg (by decide)]
  simp only[Array.getElem?_modify]
  rw[if_neg (fun h=>hk h.symm)]
 have hnew : ∃ fz,(w.freeze ⟨b,C.toArray.size,none⟩ 1).heap[b]? = some (.cells C.toArray et fz):=by
  unfold World.freeze
  rw[if_neg (by decide)]
  simp only[Array.getElem?_modify,if_true,hb]
  exact⟨_,rfl⟩
 obtain⟨fz,hnew⟩:=hnew
 have hos:(w.freeze ⟨b,C.toArray.size,none⟩ 1).os=w.os:=by unfold World.freeze;rw[if_neg (by decide)]
 have hta:(w.freeze ⟨b,C.toArray.size,none⟩ 1).tape=w.tape:=by unfold World.freeze;rw[if_neg (by decide)]
 have hou:(w.freeze ⟨b,C.toArray.size,none⟩ 1).output=w.output:=by unfold World.freeze;rw[if_neg (by decide)]
 generalize w.freeze ⟨b,C.toArray.size,none⟩ 1=w' at *
 refine⟨⟨hos.trans hst.keep.os,hta.trans hst.keep.tape,hou.trans hst.keep.output,by rw[hsz];exact hst.keep.size,fun k o ho=>?_⟩,h2.box.of_same fun x hx=>hoth _ (hnb x hx),h2.nd,h2.own,h2.avlt,fun r hr=>?_,?_⟩
 · obtain⟨o',ho',hs⟩:=hst.keep.obj k o ho
   have hlt:=bG ho
   exact⟨o',by rw[hoth k (by omega)];exact ho',hs⟩
 · have:=h2.rows r hr
   exact⟨this.1.of_same (hoth _ (hnr r (by simpa using hr))),this.2⟩
 · have hnav : ¬ Av av bs (r1++r2) b:=by
    rintro(ha | ⟨x,hx,he⟩ | ⟨r,hr,he⟩)
    · have:=hst.avlt b ha
      omega
    · exact hnb x hx he
    · exact hnr r (by simpa using hr) he
   refine Holds.and ?_ (ai.holds (ad:=⟨b,0,none⟩) (.inr ⟨rfl,C.toArray,et,fz,hnew,fun j hj=>by simp⟩) hnav)
   refine hst.data.move (by omega) (fun k hk hna=>hoth k fun he=>hna (.inr (.inr ⟨(b,Row.c C),by simp,he.symm⟩))) (fun k hk=>.inl ?_)
   rcases hk with hk | hk | ⟨r,hr,rfl⟩
   · exact .inl hk
   · exact .inr (.inl hk)
   · rcases List.mem_append.1 hr with hr | hr
     · exact .inr (.inr ⟨r,by simp[hr],rfl⟩)
     · exact .inr (.inr ⟨r,by simp[hr],rfl⟩)
end
end Go.Sx
namespace Go.Sx
set_option linter.unusedVariables false
section
variable {P:Program} {aY:er} {w0:World} {R:Nat→Nat→Prop} {av:Nat→Prop} {bs:List (Nat×Nat)} {cs:List (List Value)} {F:Fx}
theorem ar.post {m:Sem Value} {K K':KV} (h:ar P w0 R av m bs cs F K') (hk : ∀ v bs' cs' F',K' v bs' cs' F'→∃ F'',ax F' F''∧K v bs' cs' F''):ar P w0 R av m bs cs F K:=by
 refine cM.2 fun w hst=>?_
 obtain⟨v,w',ext,cs',D',h1,h2,h3⟩:=cM.1 h w hst
 obtain⟨F'',he,h4⟩:=hk _ _ _ _ h3
 exact⟨v,w',ext,cs',F'',h1,h2.bZ he,h4⟩
theorem ar.wS (hT:bB P aY) {t xt ty:TypeId} {ti tx te:TI} {e xe:TypeId} (ht:look aY t=some ti) (hk:ti.k = .slice e) (hx:look aY xt=some tx) (hxk:tx.k = .slice xe) (he:look aY e=some te)
 (hzl:te.zero.length=te.size) {a p:Option Addr} {m cx:Nat} {M:List Value} {K:KV} (hM:aK w0 R av bs cs F p M) (hm:M.length=m*te.size) (hlen:m≤4611686018427387904) (hroom:(2*m+1000)*te.bytes≤2 ^ 48)
 (h : ∀ k:Hd,k.Ok m→K (k.v m) bs cs ⟨fun w=>F.D w∧ai w k.a M,F.rs⟩) :
 ar P w0 R av (Builtin.append_ #[t,xt] ty #[.slice a 0 0,.slice p m cx]) bs cs F K:=by
 rcases Nat.eq_zero_or_pos m with h0 | h0
 · have hMn:M = []:=List.eq_nil_of_length_eq_zero (by rw[hm,h0,Nat.zero_mul])
   subst hMn
   have h':=h ⟨a,0⟩ ⟨fun _=>h0,by simp[h0]⟩
   rw[h0] at h'
   refine ar.post (ar.Bg hT ht hk hx hxk he (K:=fun v bs' cs' F'=>v = .slice a 0 0∧bs'=bs∧cs'=cs∧F'=F) (Nat.le_refl _) h0 hM ⟨rfl,rfl,rfl,rfl⟩) ?_
   rintro v bs' cs' F' ⟨rfl,rfl,rfl,rfl⟩
   refine⟨⟨fun w=>F'.D w∧ai w a [],F'.rs⟩,ax.of_le ⟨List.Sublist.refl _,fun w hw=>⟨hw,ai.w_ _⟩⟩,h'⟩
 · refine ar.post (ar.lG hT ht hk hx hxk he hzl (K:=fun v bs' cs' F'=>∃ b cap' C',cZ te.size (0+m) (some ⟨b,0,none⟩) cap' C' ([]++M)∧v = .slice (some ⟨b,0,none⟩) (0+m) cap'∧bs'=bs∧cs'=cs∧F'=⟨F.D,F.rs ++ [(b,Row.c C')]⟩) (L:=[]) (M:=M) (fun w _=>ai.w_ _) (by simp) hM hm (by omega) (by omega) (by simpa using hroom) (fun b cap' C' hO=>⟨b,cap',C',hO,rfl,rfl,rfl,rfl⟩)) ?_
   rintro v bs' cs' F' ⟨b,cap',C',hO,rfl,rfl,rfl,rfl⟩
   rw[Nat.zero_add,List.nil_append] at hO
   rw[Nat.zero_add]
   refine⟨_,?_,h ⟨some ⟨b,0,none⟩,cap'⟩ ⟨(fun h=>by cases h),hO.fit⟩⟩
   have:=cZ.share hO (r1:=F.rs) (r2:=[]) (D:=F.D)
   simpa [bo] using this
end
end Go.Sx
namespace Go.Sx
set_option linter.unusedVariables false
section
variable {P:Program} {aY:er} {w0:World} {R:Nat→Nat→Prop} {av:Nat→Prop} {bs:List (Nat×Nat)} {cs:List (List Value)} {F:Fx}
end
end Go.Sx
namespace Go.Sx
set_option linter.unusedVariables false
set_option linter.unusedSimpArgs false
section
variable {P:Program} {aY:er} {w0:World} {R:Nat→Nat→Prop} {av:Nat→Prop} {bs:List (Nat×Nat)} {cs:List (List Value)} {F:Fx}
theorem CK (l:List UInt8) (j:Nat):(ByteArray.mk ⟨l⟩)[j]? = l[j]?:=by
 by_cases h:j<l.length
 · have hs:j<(ByteArray.mk ⟨l⟩).size:=h
   rw[List.getElem?_eq_getElem h]
   show(if h:j<(ByteArray.mk ⟨l⟩).size then some ((ByteArray.mk ⟨l⟩)[j]) else none)=_
   rw[dif_pos hs]
   rfl
 · rw[List.getElem?_eq_none (by omega)]
   show(if h:j<(ByteArray.mk ⟨l⟩).size then some ((ByteArray.mk ⟨l⟩)[j]) else none)=_
   rw[dif_neg (show ¬ j<(ByteArray.mk ⟨l⟩).size from h)]
theorem ak.uN (hT:bB P aY) {t:TypeId} {ti:TI} (ht:look aY t=some ti) (hk:ti.k = .str) {l:List UInt8} {k:IntKind} {i:Int} {K:Value→Prop} (j:Nat) (hj:i=(j:Int)) (hlt:j<l.length) (h:K (ea l[j])) :
 ak P w0 R av (Instr.index t (eJ l) (.int k i)) bs cs F K:=by
 subst hj
 refine(bc _ _ _ _).2 ⟨_,fun w _=>?_,h⟩
 obtain⟨i1,d1,z1,p1,p2,p3,p4,p5,p6,p7,p8⟩:=aN (hT _ _ ht)
 rw[p4] at hk
 obtain rfl:=qY hk
 unfold Instr.index eJ
 rw[an (m:=asIntOf _) (a:=(k,(j:Int))) (w':=w) rfl,an (aM p2 w)]
 simp only
 rw[if_pos (by omega),Int.toNat_natCast,CK,List.getElem?_eq_getElem hlt]
 rfl
theorem rz {α:Type} (l:List α) (hl:0<l.length) : ∀ (n i:Nat),i<n*l.length→((List.replicate n l).flatten)[i]? = l[i%l.length]?
 | 0,i,h=>by simp at h
 | n+1,i,h=>by
  rw[List.replicate_succ,List.flatten_cons]
  by_cases hi:i<l.length
  · rw[List.getElem?_append_left hi,Nat.mod_eq_of_lt hi]
  · rw[List.getElem?_append_right (by omega),rz l hl n (i - l.length) (by rw[Nat.succ_mul] at h;omega)]
    congr 1
    rw[Nat.mod_eq_sub_mod (by omega:i≥l.length)]
theorem xm {α:Type} (l:List α) (n:Nat):((List.replicate n l).flatten).length=n*l.length:=by
 induction n with
 | zero=>simp
 | succ n ih=>rw[List.replicate_succ,List.flatten_cons,List.length_append,ih,Nat.succ_mul];omega
theorem vx (z:List Value) (hz:0<z.length) (n:Nat):(Array.range (n*z.length)).map ((⟨z⟩:Array Value)[· % (⟨z⟩:Array Value).size]!)=⟨(List.replicate n z).flatten⟩:=by
 apply Array.toList_inj.1
 apply List.ext_getElem?
 intro i
 rw[Array.toList_map]
 show((Array.range (n*z.length)).toList.map _)[i]? = ((List.replicate n z).flatten)[i]?
 rw[Array.toList_range,List.getElem?_map]
 by_cases hi:i<n*z.length
 · rw[List.getElem?_range hi,rz z hz n i hi]
   have hm:i%z.length<z.length:=Nat.mod_lt _ hz
   rw[List.getElem?_eq_getElem hm]
   simp[hm]
 · rw[List.getElem?_eq_none (by simpa using hi),List.getElem?_eq_none (by rw[xm];omega)]
   rfl
theorem ar.nN (hT:bB P aY) {t:TypeId} {ti te:TI} {e:TypeId} (ht:look aY t=some ti) (hk:ti.k = .slice e) (he:look aY e=some te) {k k':IntKind} {m m':Int} {K:KV} (n:Nat) (hm:m=(n:Int)) (hm':m'=(n:Int))
 (hn:0<n) (hs0:0<te.size) (hzl:te.zero.length=te.size) (hsmall:n≤1000000) (hroom:te.bytes*n≤1000000000)
 (h : ∀ b,K (.slice (some ⟨b,0,none⟩) n n) bs cs ⟨F.D,F.rs ++ [(b,Row.c (List.replicate n te.zero).flatten)]⟩):ar P w0 R av (Instr.makeSlice t (.int k m) (.int k' m')) bs cs F K:=by
 subst hm hm'
 refine cM.2 fun w hst=>?_
 obtain⟨i1,d1,z1,p1,p2,p3,p4,p5,p6,p7,p8⟩:=aN (hT _ _ ht)
 obtain⟨i2,d2,z2,q1,q2,q3,q4,q5,q6,q7,q8⟩:=aN (hT _ _ he)
 rw[p4] at hk
 obtain rfl:=da hk
 refine⟨_,_,[],cs,_,?_,by rw[List.append_nil];exact hst.newRow ((List.replicate n te.zero).flatten) e,by rw[List.append_nil];exact h _⟩
 unfold Instr.makeSlice
 rw[an (aM p2 w)]
 simp only
 rw[an (m:=asInt _) (a:=(n:Int)) (w':=w) rfl,an (m:=asInt _) (a:=(n:Int)) (w':=w) rfl,an (run_typeInfo q1 w)]
 have w1:IntKind.i64.wrap (n:Int)=n:=wrap_i64 (by omega)
 simp only[w1]
 have hb1:(i2.bytes:Int)*(n:Int)≤1000000000:=by
  have h3:((te.bytes*n:Nat):Int)≤((1000000000:Nat):Int):=Int.ofNat_le.2 hroom
  rw[Int.natCast_mul,q7] at h3
  exact h3
 have ht1:(decide ((n:Int)<0)||decide ((i2.bytes:Int)*(n:Int)>2 ^ 48))=false:=by
  have e48:(2:Int) ^ 48=281474976710656:=by decide
  rw[Bool.or_eq_false_iff,e48]
  exact⟨decide_eq_false (by omega),decide_eq_false (by omega)⟩
 simp only[ht1,Bool.false_or]
 have ht2:(decide ((n:Int)<0)||decide ((n:Int)>(n:Int)))=false:=by
  rw[Bool.or_eq_false_iff]
  exact⟨decide_eq_false (by omega),decide_eq_false (by omega)⟩
 rw[if_neg (by rw[ht2];simp)]
 rw[an (run_askRoom _ _),an (run_sizeOf q1 w),← q5]
 simp only[Int.toNat_natCast]
 have hz2:z2.cells=⟨te.zero⟩:=by rw[q6]
 have h0:n*te.size≠0:=Nat.ne_of_gt (Nat.mul_pos hn hs0)
 rw[if_neg h0,an (eQ q1 q3 w),an (run_pure P _ w)]
 rw[hz2,← hzl,vx te.zero (by omega) n]
 rw[an (iJ w e _)]
 rfl
end
end Go.Sx
namespace Go.Sx
open Go
set_option linter.unusedVariables false
set_option linter.unusedSimpArgs false
variable {P:Program} {aY:er} {w0:World} {R:Nat→Nat→Prop} {av:Nat→Prop} {bs:List (Nat×Nat)} {cs:List (List Value)} {F:Fx}
theorem nB {α:Type} : ∀ {l:List α} {n:Nat} {x:α} {K:α→Prop},l[n]? = some x→K x→eU l n K
 | [],n,x,K,h,_=>by simp at h
 | y::l,0,x,K,h,k=>by
  simp at h
  subst h
  exact k
 | y::l,n+1,x,K,h,k=>nB (l:=l) (by simpa using h) k
theorem sj : ∀ {l:List Value} {o n:Nat} {K:List Value→Prop},o+n≤l.length→K ((l.drop o).take n)→jP l o n K
 | l,0,0,K,_,h=>by
  unfold jP
  simpa using h
 | x::xs,0,n+1,K,hl,h=>by
  unfold jP
  exact sj (l:=xs) (o:=0) (n:=n) (by simp at hl;omega) (by simpa using h)
 | x::xs,o+1,n,K,hl,h=>by
  unfold jP
  exact sj (l:=xs) (by simp at hl;omega) (by simpa using h)
 | [],0,n+1,K,hl,h=>by simp at hl
 | [],o+1,n,K,hl,h=>by simp at hl
theorem uk {l:List Value} {n:Nat} {K:List Value→Prop} (hl:l.length=n) (h:K l):jP l 0 n K:=
 sj (by omega) (by rw[← hl];simpa using h)
theorem sF : ∀ {l:List Value} {n:Nat} {K:Prop},l.length=n→K→xC l n K
 | [],0,K,_,h=>h
 | _::xs,n+1,K,hl,h=>sF (l:=xs) (by simpa using hl) h
 | [],n+1,K,hl,h=>by simp at hl
 | _::xs,0,K,hl,h=>by simp at hl
theorem kK : ∀ {l:List Value} {o:Nat} {m:List Value} {K:List Value→Prop},o+m.length≤l.length→K (laid l o m)→fD l o m K
 | xs,0,[],K,_,h=>by
  unfold fD
  simpa [laid] using h
 | x::xs,0,y::ys,K,hl,h=>by
  unfold fD
  refine kK (l:=xs) (o:=0) (m:=ys) (by simp at hl ⊢;omega) ?_
  simpa [laid] using h
 | x::xs,o+1,ys,K,hl,h=>by
  unfold fD
  refine kK (l:=xs) (o:=o) (m:=ys) (by simp at hl;omega) ?_
  have e:o+1+ys.length=(o+ys.length)+1:=by omega
  simpa [laid,e] using h
 | [],0,y::ys,K,hl,h=>by simp at hl
 | [],o+1,ys,K,hl,h=>by simp at hl
theorem w3 {i n:Nat} (h:i<n):Nat.blt i n=true:=by
 simp[Nat.blt]
 omega
theorem aK.box {b o:Nat} {c:List Value} (i:Nat) (hb:nth (0,0) bs i=(b,o)) (hi:i<cs.length) (hc:nth [] cs i=c):aK w0 R av bs cs F (some ⟨b,o,none⟩) c:=fun w hst=>by
 obtain⟨h1,h2⟩:=hst.box.get i hi
 rw[hb,hc] at h1
 exact .zc h1
theorem ak.bj (hT:bB P aY) {t:TypeId} {ti te:TI} {n:Nat} {e:TypeId} (ht:look aY t=some ti) (hk:ti.k = .arr n e) (he:look aY e=some te) {a:Addr} {k:IntKind} {i:Int} {K:Value→Prop}
 (j:Nat) (hj:i=(j:Int)) (h1:j<n) (ha:a.spot=none) (h:K (.pointer (some (a.add (j*te.size))))):ak P w0 R av (Instr.indexAt t (.pointer (some a)) (.int k i)) bs cs F K:=by
 subst hj
 refine(bc _ _ _ _).2 ⟨_,fun w _=>?_,h⟩
 obtain⟨i1,d1,z1,p1,p2,p3,p4,p5,p6,p7,p8⟩:=aN (hT _ _ ht)
 obtain⟨i2,d2,z2,q1,q2,q3,q4,q5,q6,q7,q8⟩:=aN (hT _ _ he)
 rw[p4] at hk
 have hd:d1 = .array n e:=by
  cases d1<;>simp[dK] at hk
  obtain⟨rfl,rfl⟩:=hk
  rfl
 subst hd
 unfold Instr.indexAt
 rw[an (m:=asIntOf (.int k (j:Int))) (a:=(k,(j:Int))) (w':=w) rfl]
 simp only
 rw[an (aM p2 w)]
 simp only
 rw[an (m:=Instr.sureAddr (.pointer (some a))) (a:=a) (w':=w) rfl,an (run_pure P _ w)]
 rw[an (aM p2 w)]
 simp only
 rw[if_pos ⟨by omega,by omega⟩,an (run_sizeOf q1 w),← q5]
 simp
theorem ak.hJ (hT:bB P aY) {t:TypeId} {ti te:TI} {n:Nat} {e:TypeId} (ht:look aY t=some ti) (hk:ti.k = .arr n e) (he:look aY e=some te) (hea:te.k.agg=false) (hsz:te.size=1)
 {l:List Value} {k:IntKind} {i:Int} {v:Value} {K:Value→Prop}
 (j:Nat) (hj:i=(j:Int)) (h1:j<n) (hv:l[j]? = some v) (h:K v):ak P w0 R av (Instr.index t (.agg ⟨l⟩) (.int k i)) bs cs F K:=by
 subst hj
 refine(bc _ _ _ _).2 ⟨_,fun w _=>?_,h⟩
 obtain⟨i1,d1,z1,p1,p2,p3,p4,p5,p6,p7,p8⟩:=aN (hT _ _ ht)
 obtain⟨i2,d2,z2,q1,q2,q3,q4,q5,q6,q7,q8⟩:=aN (hT _ _ he)
 rw[p4] at hk
 have hd:d1 = .array n e:=by
  cases d1<;>simp[dK] at hk
  obtain⟨rfl,rfl⟩:=hk
  rfl
 subst hd
 unfold Instr.index
 rw[an (m:=asIntOf (.int k (j:Int))) (a:=(k,(j:Int))) (w':=w) rfl]
 simp only
 rw[an (aM p2 w)]
 simp only
 rw[if_pos ⟨by omega,by omega⟩,an (run_sizeOf q1 w),← q5,hsz]
 unfold part
 rw[an (dW q2 w),← q4,hea]
 have hg:(⟨l⟩:Array Value)[j]? = some v:=by simpa using hv
 simp[hg]
theorem ak.rb (hT:bB P aY) {t:TypeId} {ti te:TI} {n:Nat} {e:TypeId} (ht:look aY t=some ti) (hk:ti.k = .arr n e) (he:look aY e=some te) (hea:te.k.agg=true)
 {l m:List Value} {k:IntKind} {i:Int} {K:Value→Prop}
 (j:Nat) (hj:i=(j:Int)) (h1:j<n) (hm:(l.drop (j*te.size)).take te.size=m) (hl:j*te.size+te.size≤l.length) (h:K (.agg ⟨m⟩)):ak P w0 R av (Instr.index t (.agg ⟨l⟩) (.int k i)) bs cs F K:=by
 subst hj
 refine(bc _ _ _ _).2 ⟨_,fun w _=>?_,h⟩
 obtain⟨i1,d1,z1,p1,p2,p3,p4,p5,p6,p7,p8⟩:=aN (hT _ _ ht)
 obtain⟨i2,d2,z2,q1,q2,q3,q4,q5,q6,q7,q8⟩:=aN (hT _ _ he)
 rw[p4] at hk
 have hd:d1 = .array n e:=by
  cases d1<;>simp[dK] at hk
  obtain⟨rfl,rfl⟩:=hk
  rfl
 subst hd
 unfold Instr.index
 rw[an (m:=asIntOf (.int k (j:Int))) (a:=(k,(j:Int))) (w':=w) rfl]
 simp only
 rw[an (aM p2 w)]
 simp only
 rw[if_pos ⟨by omega,by omega⟩,an (run_sizeOf q1 w),← q5,Int.toNat_natCast]
 unfold part
 rw[an (dW q2 w),← q4,hea]
 simp only[if_true]
 rw[an (run_sizeOf q1 w),← q5]
 have hc:(⟨l⟩:Array Value).extract (j*te.size) (j*te.size+te.size)=⟨m⟩:=by
  rw[← hm]
  simp[List.extract_eq_take_drop]
 simp[hc,hl]
theorem ak.yN (hT:bB P aY) {t:TypeId} {ti te:TI} {n:Nat} {e:TypeId} (ht:look aY t=some ti) (hk:ti.k = .arr n e) (he:look aY e=some te) {a:Addr} {K:Value→Prop} (ha:a.spot=none)
 (h:K (.slice (some (if n=0 then a else a.add (0*te.size))) (n - 0) (n - 0))):ak P w0 R av (Instr.sliceAt t (.pointer (some a)) none none none) bs cs F K:=by
 refine(bc _ _ _ _).2 ⟨_,fun w _=>?_,h⟩
 obtain⟨i1,d1,z1,p1,p2,p3,p4,p5,p6,p7,p8⟩:=aN (hT _ _ ht)
 obtain⟨i2,d2,z2,q1,q2,q3,q4,q5,q6,q7,q8⟩:=aN (hT _ _ he)
 rw[p4] at hk
 have hd:d1 = .array n e:=by
  cases d1<;>simp[dK] at hk
  obtain⟨rfl,rfl⟩:=hk
  rfl
 subst hd
 unfold Instr.sliceAt
 rw[an (aM p2 w)]
 simp only
 rw[an (m:=Instr.sureAddr (.pointer (some a))) (a:=a) (w':=w) rfl]
 rw[an (m:=Instr.sliceBounds false n n none none none) (a:=(0,n,n)) (w':=w) rfl]
 simp only
 rw[an (run_sizeOf q1 w),← q5]
 rfl
theorem ar.cT (hT:bB P aY) {e:TypeId} {ti:TI} (ht:look aY e=some ti) {z:List Value} (hz:ti.zero=z) {K:KV} (h : ∀ b,K (.pointer (some ⟨b,0,none⟩)) bs cs ⟨F.D,F.rs ++ [(b,Row.c z)]⟩) :
 ar P w0 R av (Instr.alloc e true (.tuple #[])) bs cs F K:=by
 subst hz
 refine cM.2 fun w hst=>?_
 obtain⟨i,d,z,h1,h2,h3,h4,h5,h6,-,-⟩:=aN (hT _ _ ht)
 refine⟨_,_,[],cs,_,?_,by rw[List.append_nil];exact hst.newRow ti.zero e,by rw[List.append_nil];exact h _⟩
 unfold Instr.alloc
 rw[an (eQ h1 h3 w)]
 rw[h6]
 rfl
theorem ar.bQ {e:TypeId} {z:List Value} {K:KV} (h : ∀ b,K (.pointer (some ⟨b,0,none⟩)) bs cs ⟨F.D,F.rs ++ [(b,Row.c z)]⟩) :
 ar P w0 R av (Instr.box e (.agg ⟨z⟩)) bs cs F K:=by
 refine cM.2 fun w hst=>?_
 exact⟨_,_,[],cs,_,rfl,by rw[List.append_nil];exact hst.newRow z e,by rw[List.append_nil];exact h _⟩
theorem ak.fo (hT:bB P aY) {t:TypeId} {ti:TI} (ht:look aY t=some ti) (hk:ti.k = .struct) {ps:List (Nat×Value)} {K:Value→Prop} (h:fB (dq ti) ps ti.zero fun z=>K (.agg ⟨z⟩)) :
 ak P w0 R av (Instr.build t ⟨ps⟩) bs cs F K:=by
 obtain⟨z,h1,h2⟩:=run_build (hT _ _ ht) hk h
 exact(bc _ _ _ _).2 ⟨_,fun w _=>h1 w,h2⟩
theorem ar.B5 (hT:bB P aY) {t xt ty:TypeId} {ti te:TI} {e:TypeId} (ht:look aY t=some ti) (hk:ti.k = .slice e) (he:look aY e=some te) {D:World→Prop} {r1 r2:List (Nat×Row)} {b k n c:Nat} {C M:List Value} {p:Addr}
 {q:Option Addr} {m cx:Nat} {K:KV} (hp:p=⟨b,k,none⟩) (hM:aK w0 R av bs cs ⟨D,r1 ++ [(b,Row.c C)]++r2⟩ q M) (hm:M.length=m*te.size) (hone : ∀ v∈M,a7 v=true) (hle:k+(min m n)*te.size≤C.length)
 (h:K (.int .i64 ((min m n:Nat):Int)) bs cs ⟨D,r1 ++ [(b,Row.c (laid C k (M.take ((min m n)*te.size))))]++r2⟩) :
 ar P w0 R av (Builtin.copy_ #[t,xt] ty #[.slice (some p) n c,.slice q m cx]) bs cs ⟨D,r1 ++ [(b,Row.c C)]++r2⟩ K:=by
 subst hp
 refine cM.2 fun w hst=>?_
 obtain⟨i1,d1,z1,p1,p2,p3,p4,p5,p6,p7,p8⟩:=aN (hT _ _ ht)
 obtain⟨i2,d2,z2,q1,q2,q3,q4,q5,q6,q7,q8⟩:=aN (hT _ _ he)
 rw[p4] at hk
 obtain rfl:=da hk
 have hmin:min m n*te.size≤M.length:=by rw[hm];exact Nat.mul_le_mul_right _ (Nat.min_le_left _ _)
 have hlt:(M.take (min m n*te.size)).length=min m n*te.size:=by rw[List.length_take];omega
 obtain⟨w',g1,g2⟩:=St.w7 (P:=P) (w':=w) (k:=k) hst (l:=M.take (min m n*te.size)) (fun v hv=>hone v (List.mem_of_mem_take hv)) (by rw[hlt];exact hle)
 refine⟨_,w',[],cs,_,?_,by rw[List.append_nil];exact g2,by rw[List.append_nil];exact h⟩
 unfold Builtin.copy_
 simp only[show(#[t,xt]:Array TypeId)[0]? = some t from rfl,show ∀ u v:Value,(#[u,v]:Array Value)[0]? = some u from fun _ _=>rfl,show ∀ u v:Value,(#[u,v]:Array Value)[1]? = some v from fun _ _=>rfl]
 rw[an (aM p2 w)]
 simp only
 rw[an (m:=Builtin.lenOf (.slice q m cx)) (a:=m) (w':=w) rfl,an (run_sizeOf q1 w),← q5]
 have hf:=dU (P:=P) (n:=m) (c:=cx) (((hM w hst).take (min m n*te.size))) (m:=min m n) (sz:=te.size) hlt
 rw[show Nat.min m n=min m n from rfl,an hf]
 simp only
 rw[an g1]
 rfl
theorem ak.shl {t:TypeId} {x y:Operand} {k k':IntKind} {a:Int} {j:Nat} {i:Int} {K:Value→Prop} (hi:i=(j:Int)) (hj:j≤k.bits) (h:K (.int k (k.wrap (a*2 ^ j)))) :
 ak P w0 R av (do eqGuard .shl t x y (.int k a) (.int k' i);binOp .shl t (.int k a) (.int k' i)) bs cs F K:=by
 subst hi
 refine(bc _ _ _ _).2 ⟨_,fun w _=>?_,h⟩
 rw[an (fv _ _ _ _ _ _ _ _ w)]
 simp only[binOp,Op.shift]
 rw[if_neg (by omega),Int.toNat_natCast,Nat.min_eq_left hj]
 rfl
theorem ak.shr {t:TypeId} {x y:Operand} {k k':IntKind} {a:Nat} {j:Nat} {i:Int} {K:Value→Prop} (hi:i=(j:Int)) (hj:j≤k.bits) (h:K (.int k ((a/2 ^ j:Nat):Int))) :
 ak P w0 R av (do eqGuard .shr t x y (.int k (a:Int)) (.int k' i);binOp .shr t (.int k (a:Int)) (.int k' i)) bs cs F K:=by
 subst hi
 refine(bc _ _ _ _).2 ⟨_,fun w _=>?_,h⟩
 rw[an (fv _ _ _ _ _ _ _ _ w)]
 simp only[binOp,Op.shift]
 rw[if_neg (by omega),Int.toNat_natCast,Nat.min_eq_left hj]
 have:((a:Int).fdiv (2 ^ j))=((a/2 ^ j:Nat):Int):=by
  rw[Int.fdiv_eq_ediv_of_nonneg _ (by exact_mod_cast Nat.zero_le _)]
  push_cast
  rfl
 rw[this]
 rfl
end Go.Sx
namespace Go.Sx
open Go
set_option linter.unusedVariables false
set_option linter.unusedSimpArgs false
variable {P:Program} {aY:er} {w0:World} {R:Nat→Nat→Prop} {av:Nat→Prop} {bs:List (Nat×Nat)} {cs:List (List Value)} {F:Fx}
abbrev j_:=List (Value×Value)
def cw (l:j_):Array MapEntry:=(l.zipIdx.map fun x=>⟨x.1.1,x.1.2,x.2⟩).toArray
theorem fp (l:j_) (i:Nat):(cw l).toList[i]? = l[i]?.map fun p=>⟨p.1,p.2,i⟩:=by
 simp only[cw,List.getElem?_map,List.getElem?_zipIdx]
 cases l[i]?<;>simp
theorem uF {l:j_} {e:MapEntry} (h:e∈(cw l).toList) : ∃ i p,l[i]? = some p∧e=⟨p.1,p.2,i⟩:=by
 obtain⟨i,hi⟩:=List.mem_iff_getElem?.1 h
 rw[fp] at hi
 cases hp:l[i]? with
 | none=>rw[hp] at hi;cases hi
 | some p=>
  rw[hp] at hi
  cases hi
  exact⟨i,p,hp,rfl⟩
theorem rf (l:j_) (p:Value×Value):cw (l ++ [p])=(cw l).push ⟨p.1,p.2,l.length⟩:=by
 simp[cw,List.zipIdx_append]
theorem yz (l:j_) (i:Nat) (k v:Value):(cw l).modify i (fun e=>{ e with key:=k,val:=v })=cw (l.set i (k,v)):=by
 apply Array.ext_getElem?
 intro j
 rw[Array.getElem?_modify]
 have e1 : ∀ m:j_,(cw m)[j]? = (cw m).toList[j]?:=fun m=>by simp
 rw[e1,e1,fp,fp,List.getElem?_set]
 by_cases hij:i=j
 · subst hij
   rw[if_pos rfl]
   by_cases hl:i<l.length
   · simp[hl]
   · simp[hl]
 · simp[hij]
def BW (w:World) (b:Nat) (l:j_):Prop:=w.heap[b]? = some (.map (cw l) l.length)
def fH (w0:World) (R:Nat→Nat→Prop) (av:Nat→Prop) (bs:List (Nat×Nat)) (cs:List (List Value)) (F:Fx) (b:Nat) (l:j_):Prop:=∀ w,St w0 R av w bs cs F→BW w b l
theorem fH.row {b:Nat} {l:j_} (h:(b,Row.m (cw l) l.length)∈F.rs):fH w0 R av bs cs F b l:=fun w hst=>(hst.rows _ h).1
theorem fH.fact {b:Nat} {l:j_} (h : ∀ w,F.D w→BW w b l):fH w0 R av bs cs F b l:=fun w hst=>h w hst.now
section keys
variable {d:TypeDesc} {k:Value}
theorem ju (hk:MapKept.IsKey d k) {l:j_} (hl : ∀ p∈l,MapKept.IsKey d p.1) :
 (∃ i v,l[i]? = some (k,v)∧Instr.findNow d k (cw l).toList 0=some (some (i,v)))∨((∀ p∈l,p.1≠k)∧Instr.findNow d k (cw l).toList 0=some none):=by
 have hk' : ∀ x∈(cw l).toList,MapKept.IsKey d x.key:=fun x hx=>by
  obtain⟨i,p,h1,rfl⟩:=uF hx
  exact hl p (List.mem_of_getElem? h1)
 rcases MapKept.findNow_spec hk (cw l).toList 0 hk' with⟨h1,h2⟩ | ⟨j,e,h1,h2,h3⟩
 · refine .inr ⟨fun p hp=>?_,h1⟩
   obtain⟨i,hi⟩:=List.mem_iff_getElem?.1 hp
   have:(cw l).toList[i]? = some ⟨p.1,p.2,i⟩:=by rw[fp,hi];rfl
   exact h2 _ (List.mem_of_getElem? this)
 · rw[fp] at h2
   cases hp:l[j]? with
   | none=>rw[hp] at h2;cases h2
   | some p=>
    rw[hp] at h2
    cases h2
    obtain⟨p1,p2⟩:=p
    have h3:p1=k:=h3
    subst h3
    rw[Nat.zero_add] at h1
    exact .inl ⟨j,p2,hp,h1⟩
end keys
def yR:TK→Option TypeDesc
 | .int k=>some (.int k)
 | .str=>some .string
 | _=>none
theorem vn {t:TypeDesc} {d:TypeDesc} (h:yR (dK t)=some d):t=d:=by
 cases t<;>simp[dK,yR] at h<;>exact h
theorem ak.yI (hT:bB P aY) {t kt et:TypeId} {ti tk:TI} (ht:look aY t=some ti) (hk:ti.k = .map kt et) (hkt:look aY kt=some tk) {d:TypeDesc} (hd:yR tk.k=some d) {b:Nat} {l:j_} {k v:Value} {ok:Bool} {K:Value→Prop}
 (hm:fH w0 R av bs cs F b l) (hkk:MapKept.IsKey d k) (hl : ∀ p∈l,MapKept.IsKey d p.1) (hv : ∀ (i:Nat) u,l[i]? = some (k,u)→u=v) (hin : ∃ p∈l,p.1=k)
 (h:K (if ok then .tuple #[v,.bool true] else v)) :
 ak P w0 R av (Instr.lookup t (.map (some b)) k ok) bs cs F K:=by
 refine(bc _ _ _ _).2 ⟨_,fun w hst=>?_,h⟩
 obtain⟨i1,d1,z1,p1,p2,p3,p4,p5,p6,p7,p8⟩:=aN (hT _ _ ht)
 obtain⟨i2,d2,z2,q1,q2,q3,q4,q5,q6,q7,q8⟩:=aN (hT _ _ hkt)
 rw[p4] at hk
 obtain rfl:=kn hk
 rw[q4] at hd
 obtain rfl:=vn hd
 have hb:w.heap[b]? = some (.map (cw l) l.length):=hm w hst
 have hck:(Instr.checkKey (cw l).isEmpty 10000 kt k).run P w = .ok () w:=MapKept.run_checkKey q2 hkk _ 9999
 rcases ju hkk hl with⟨i,u,h1,h2⟩ | ⟨h1,h2⟩
 · have hf:=MapKept.run_findKey (w:=w) q2 h2
   have:=hv i u h1
   subst this
   cases ok<;>simp[Instr.lookup,run_underlying p2,MapKept.run_getObj_map hb,hck,hf,Result.andThen]
 · obtain⟨p,hp,he⟩:=hin
   exact absurd he (h1 p hp)
theorem ak.zS (hT:bB P aY) {t kt et:TypeId} {ti tk:TI} (ht:look aY t=some ti) (hk:ti.k = .map kt et) (hkt:look aY kt=some tk) {d:TypeDesc} (hd:yR tk.k=some d) {b:Nat} {l:j_} {k z:Value} {ok:Bool} {K:Value→Prop}
 (hm:fH w0 R av bs cs F b l) (hkk:MapKept.IsKey d k) (hl : ∀ p∈l,MapKept.IsKey d p.1) (hno : ∀ p∈l,p.1≠k) (hz:(P.info? et).bind (·.zero)=some z)
 (h:K (if ok then .tuple #[z,.bool false] else z)) :
 ak P w0 R av (Instr.lookup t (.map (some b)) k ok) bs cs F K:=by
 refine(bc _ _ _ _).2 ⟨_,fun w hst=>?_,h⟩
 obtain⟨i1,d1,z1,p1,p2,p3,p4,p5,p6,p7,p8⟩:=aN (hT _ _ ht)
 obtain⟨i2,d2,z2,q1,q2,q3,q4,q5,q6,q7,q8⟩:=aN (hT _ _ hkt)
 rw[p4] at hk
 obtain rfl:=kn hk
 rw[q4] at hd
 obtain rfl:=vn hd
 have hb:w.heap[b]? = some (.map (cw l) l.length):=hm w hst
 have hck:(Instr.checkKey (cw l).isEmpty 10000 kt k).run P w = .ok () w:=MapKept.run_checkKey q2 hkk _ 9999
 rcases ju hkk hl with⟨i,u,h1,h2⟩ | ⟨h1,h2⟩
 · exact absurd rfl (hno _ (List.mem_of_getElem? h1))
 · have hf:=MapKept.run_findKey (w:=w) q2 h2
   have hzv:(zeroValue et).run P w = .ok z w:=by
    cases hi:P.info? et with
    | none=>rw[hi] at hz;cases hz
    | some i3=>
     rw[hi] at hz
     exact eQ hi hz w
   cases ok<;>simp[Instr.lookup,run_underlying p2,MapKept.run_getObj_map hb,hck,hf,hzv,Result.andThen]
theorem ar.oC {t:TypeId} {K:KV} (h : ∀ b,K (.map (some b)) bs cs ⟨F.D,F.rs ++ [(b,Row.m (cw []) ([]:j_).length)]⟩):ar P w0 R av (Instr.makeMap t none) bs cs F K:=ar.makeMap h
theorem aP.zl (hT:bB P aY) {t kt et:TypeId} {ti tk:TI} (ht:look aY t=some ti) (hk:ti.k = .map kt et) (hkt:look aY kt=some tk) {d:TypeDesc} (hd:yR tk.k=some d)
 {D:World→Prop} {r1 r2:List (Nat×Row)} {b:Nat} {l:j_} {k v:Value} {K:KU} (hkk:MapKept.IsKey d k) (hl : ∀ p∈l,MapKept.IsKey d p.1) (hno : ∀ p∈l,p.1≠k)
 (h:K bs cs ⟨D,r1 ++ [(b,Row.m (cw (l ++ [(k,v)])) (l ++ [(k,v)]).length)]++r2⟩) :
 aP P w0 R av (Instr.mapUpdate t (.map (some b)) k v) bs cs ⟨D,r1 ++ [(b,Row.m (cw l) l.length)]++r2⟩ K:=by
 refine eZ.2 fun w hst=>?_
 obtain⟨i1,d1,z1,p1,p2,p3,p4,p5,p6,p7,p8⟩:=aN (hT _ _ ht)
 obtain⟨i2,d2,z2,q1,q2,q3,q4,q5,q6,q7,q8⟩:=aN (hT _ _ hkt)
 rw[p4] at hk
 obtain rfl:=kn hk
 rw[q4] at hd
 obtain rfl:=vn hd
 have hb:w.heap[b]? = some (.map (cw l) l.length):=(hst.rows (b,Row.m (cw l) l.length) (by simp)).1
 have hck:(Instr.checkKey false 10000 kt k).run P w = .ok () w:=MapKept.run_checkKey q2 hkk _ 9999
 have h2:Instr.findNow d2 k (cw l).toList 0=some none:=by
  rcases ju hkk hl with⟨i,u,h1,_⟩ | ⟨_,h2⟩
  · exact absurd rfl (hno _ (List.mem_of_getElem? h1))
  · exact h2
 have hf:=MapKept.run_findKey (w:=w) q2 h2
 obtain⟨g1,g2⟩:=MapKept.heap_set (o':=.map (cw (l ++ [(k,v)])) (l ++ [(k,v)]).length) hb
 refine⟨{ w with heap:=w.heap.setIfInBounds b (.map (cw (l ++ [(k,v)])) (l ++ [(k,v)]).length) },[],cs,_,?_,?_,by rw[List.append_nil];exact h⟩
 · rw[rf]
   simp[Instr.mapUpdate,run_underlying p2,MapKept.run_getObj_map hb,hck,hf,MapKept.run_setObj_map _ hb,Result.andThen]
 · rw[List.append_nil]
   exact hst.putRow (C':=Row.m (cw (l ++ [(k,v)])) (l ++ [(k,v)]).length) rfl rfl rfl (by simp) g2 g1 fun l hl=>by cases hl
end Go.Sx
namespace Go.Sx
open Go
set_option linter.unusedVariables false
set_option linter.unusedSimpArgs false
theorem map_set (l:List UInt8) (k:Nat) (x:UInt8):(l.set k x).map ea=(l.map ea).set k (ea x):=by
 apply List.ext_getElem?
 intro i
 simp only[List.getElem?_map,List.getElem?_set,List.length_map]
 split
 · split<;>simp
 · rfl
def Hd.sub (h:Hd) (l:Nat):Hd:=⟨jM h.a l h.c 1,h.c - l⟩
def cut (d:List UInt8) (l k:Nat):List UInt8:=(d.drop l).take k
theorem By.sub {w:World} {h:Hd} {d:List UInt8} (hb:By w h d) {l k:Nat} (hl:l+k≤h.c):By w (Hd.sub h l) (cut d l k):=by
 have:=ai.cut (l:=l) (hi:=l+k) (m:=h.c) (size:=1) hb ⟨by omega,hl⟩
 rw[Nat.mul_one,Nat.add_sub_cancel_left,Nat.mul_one] at this
 unfold By Hd.sub cut
 rw[List.map_take,List.map_drop]
 exact this
variable {P:Program} {aY:er} {w0:World} {R:Nat→Nat→Prop} {av:Nat→Prop} {bs:List (Nat×Nat)} {cs:List (List Value)} {F:Fx}
theorem aK.bytes {b:Nat} {l:List UInt8} {Z:List Value} (h:(b,Row.c (l.map ea++Z))∈F.rs):aK w0 R av bs cs F (some ⟨b,0,none⟩) (l.map ea):=
 ((
  aK.row h).take l.length).eq (by
  have e:l.length=(l.map ea).length:=by simp
  rw[e,List.take_left])
theorem cZ.split {n b cap:Nat} {C L:List Value} (h:cZ 1 n (some ⟨b,0,none⟩) cap C L) : ∃ Z,C=L++Z∧Z.length=cap - n∧n≤cap:=by
 rcases h.alt with⟨h1,_⟩ | ⟨b',_,h2,h3⟩
 · cases h1
 · rw[Nat.mul_one] at h2 h3
   refine⟨C.drop n,?_,by simp;omega,h.fit⟩
   rw[← h3,List.take_append_drop]
theorem ak.uP (hT:bB P aY) {t:TypeId} {ti te:TI} {e:TypeId} (ht:look aY t=some ti) (hk:ti.k = .slice e) (he:look aY e=some te) {h:Hd} {n:Nat} {k2:IntKind} {hi:Int} {K:Value→Prop}
 (k:Nat) (hh:hi=(k:Int)) (hle:k≤h.c) (hK:K (h.v k)) :
 ak P w0 R av (Instr.sliceAt t (h.v n) none (some (.int k2 hi)) none) bs cs F K:=by
 subst hh
 refine ak.slice hT ht hk he (lo:=none) (hi:=some _) (mx:=none) (k1:=.i64) (k2:=k2) (k3:=.i64) 0 k h.c rfl rfl rfl (by omega) hle (Nat.le_refl _) (by simp) ?_
 rw[yc,Nat.sub_zero,Nat.sub_zero]
 exact hK
theorem af.weaken {f:FuncId} {vs:List Value} {Pre:World→Prop} {Rel Rel':Value→Fx→Prop} (h:af P f vs Pre Rel) (hr : ∀ v F,Rel v F→∃ F',ax F F'∧Rel' v F'):af P f vs Pre Rel':=by
 unfold af at h ⊢
 refine⟨h.1,fun av w hav hp=>(h.2 av w hav hp).mono ?_⟩
 rintro e w' ⟨v,F,rfl,hk,hF,hR⟩
 obtain⟨F',hE,hR'⟩:=hr v F hR
 have hst:St w (fun _ _=>False) av w' [] [] F:=⟨hk,trivial,by simpa using hF.nd,fun i hi=>by simp at hi,hav,fun r hr=>⟨(hF.rows r hr).1,.inl (hF.rows r hr).2⟩,
  hF.data.less fun b hb=>hb.elim .inl fun h=>h.elim (fun⟨x,hx,_⟩=>by simp at hx) .inr⟩
 exact⟨v,F',rfl,hk,(hst.bZ hE).fx fun b=>⟨0,id⟩,hR'⟩
def lay (l:List UInt8) (k:Nat) (m:List UInt8):List UInt8:=l.take k++m++l.drop (k+m.length)
end Go.Sx
namespace Go.Sx
open Go
set_option linter.unusedVariables false
set_option linter.unusedSimpArgs false
variable {P:Program} {aY:er} {w0:World} {R:Nat→Nat→Prop} {av:Nat→Prop} {bs:List (Nat×Nat)} {cs:List (List Value)} {F:Fx}
end Go.Sx
namespace Go.Sx
set_option linter.unusedVariables false
section
variable {α:Type} {cf:α→List Value} {z:Nat}
theorem gX (hz : ∀ x,(cf x).length=z) (l:List α):(l.flatMap cf).length=l.length*z:=by
 induction l with
 | nil=>simp
 | cons e l ih=>rw[List.flatMap_cons,List.length_append,hz,ih,List.length_cons,Nat.succ_mul];omega
theorem a8 (hz : ∀ x,(cf x).length=z) : ∀ {l:List α} {i:Nat} (h:i<l.length),((l.flatMap cf).drop (i*z)).take z=cf l[i]
 | [],i,h=>by simp at h
 | e::l,0,h=>by
  rw[List.flatMap_cons,Nat.zero_mul,List.drop_zero,List.take_append_of_le_length (by rw[hz];exact Nat.le_refl _),← hz e,List.take_length]
  rfl
 | e::l,i+1,h=>by
  have:=a8 hz (l:=l) (i:=i) (by simpa using h)
  rw[List.flatMap_cons,Nat.succ_mul,Nat.add_comm,← List.drop_drop]
  have e1:(cf e++l.flatMap cf).drop z=l.flatMap cf:=by
   rw[← hz e,List.drop_left]
  rw[e1,this]
  rfl
theorem bY (hz : ∀ x,(cf x).length=z) {l:List α} {i:Nat} (h:i<l.length) {k:Nat} (hk:k<z):(l.flatMap cf)[i*z+k]? = (cf l[i])[k]?:=by
 rw[← a8 hz h,List.getElem?_take,if_pos hk,List.getElem?_drop]
theorem fg {l:List α} {i:Nat} (h:i<l.length):(l.take (i+1)).flatMap cf=(l.take i).flatMap cf++cf l[i]:=by
 rw[List.take_succ_eq_append_getElem h,List.flatMap_append,List.flatMap_singleton]
theorem jD (hz : ∀ x,(cf x).length=z) (l:List α) (i:Nat):(l.flatMap cf).take (i*z)=(l.take i).flatMap cf:=by
 induction l generalizing i with
 | nil=>simp
 | cons e l ih=>
  cases i with
  | zero=>simp
  | succ i=>
   rw[List.take_succ_cons,List.flatMap_cons,List.flatMap_cons,Nat.succ_mul,Nat.add_comm,← ih i]
   have:z=(cf e).length:=(hz e).symm
   rw[this,List.take_length_add_append]
end
section
variable {P:Program} {aY:er} {w0:World} {R:Nat→Nat→Prop} {av:Nat→Prop} {bs:List (Nat×Nat)} {cs:List (List Value)} {F:Fx}
theorem Hd.Ok.less {h:Hd} {n i:Nat} (hh:h.Ok n) (hi:i≤n):h.Ok i:=⟨fun e=>by have:=hh.nil e;omega,by have:=hh.cap;omega⟩
theorem ar.y6 (hT:bB P aY) {t:TypeId} {ti te:TI} {e:TypeId} (ht:look aY t=some ti) (hk:ti.k = .slice e) (he:look aY e=some te) {k k':IntKind} {m m':Int} {K:KV} (n:Nat) (hn0:n=0) (hm:m=(n:Int)) (hm':m'=(n:Int))
 (h : ∀ b,K (.slice (some ⟨b,0,none⟩) n n) bs cs ⟨F.D,F.rs ++ [(b,Row.c [])]⟩):ar P w0 R av (Instr.makeSlice t (.int k m) (.int k' m')) bs cs F K:=by
 subst hn0
 subst hm hm'
 obtain⟨n,hn⟩ : ∃ n:Nat,n=0:=⟨0,rfl⟩
 have hroom:te.bytes*n≤1000000000:=by rw[hn,Nat.mul_zero];decide
 rw[← hn]
 refine cM.2 fun w hst=>?_
 obtain⟨i1,d1,z1,p1,p2,p3,p4,p5,p6,p7,p8⟩:=aN (hT _ _ ht)
 obtain⟨i2,d2,z2,q1,q2,q3,q4,q5,q6,q7,q8⟩:=aN (hT _ _ he)
 rw[p4] at hk
 obtain rfl:=da hk
 refine⟨_,_,[],cs,_,?_,by rw[List.append_nil];exact hst.newRow [] e,by rw[List.append_nil];exact h _⟩
 unfold Instr.makeSlice
 rw[an (aM p2 w)]
 simp only
 rw[an (m:=asInt _) (a:=(n:Int)) (w':=w) rfl,an (m:=asInt _) (a:=(n:Int)) (w':=w) rfl,an (run_typeInfo q1 w)]
 have w1:IntKind.i64.wrap (n:Int)=n:=wrap_i64 (by omega)
 simp only[w1]
 have hb1:(i2.bytes:Int)*(n:Int)≤1000000000:=by
  have h3:((te.bytes*n:Nat):Int)≤((1000000000:Nat):Int):=Int.ofNat_le.2 hroom
  rw[Int.natCast_mul,q7] at h3
  exact h3
 have ht1:(decide ((n:Int)<0)||decide ((i2.bytes:Int)*(n:Int)>2 ^ 48))=false:=by
  have e48:(2:Int) ^ 48=281474976710656:=by decide
  rw[Bool.or_eq_false_iff,e48]
  exact⟨decide_eq_false (by omega),decide_eq_false (by omega)⟩
 simp only[ht1,Bool.false_or]
 have ht2:(decide ((n:Int)<0)||decide ((n:Int)>(n:Int)))=false:=by
  rw[Bool.or_eq_false_iff]
  exact⟨decide_eq_false (by omega),decide_eq_false (by omega)⟩
 rw[if_neg (by rw[ht2];simp)]
 rw[an (run_askRoom _ _),an (run_sizeOf q1 w),← q5]
 simp only[Int.toNat_natCast]
 have hz2:z2.cells=⟨te.zero⟩:=by rw[q6]
 have h0:n*te.size=0:=by rw[hn,Nat.zero_mul]
 rw[if_pos h0,an (run_pure P _ w)]
 have hrr:(Array.range (n*te.size)).map ((#[]:Array Value)[· % (#[]:Array Value).size]!)=⟨[]⟩:=by rw[h0];simp
 rw[hrr,an (iJ w e _)]
 subst hn
 rfl
theorem ar.tz (hT:bB P aY) {t:TypeId} {ti te:TI} {e:TypeId} (ht:look aY t=some ti) (hk:ti.k = .slice e) (he:look aY e=some te) {k k':IntKind} {m m':Int} {K:KV} (n:Nat) (hm:m=(n:Int)) (hm':m'=(n:Int))
 (hs0:0<te.size) (hzl:te.zero.length=te.size) (hsmall:n≤1000000) (hroom:te.bytes*n≤1000000000)
 (h : ∀ b,K (.slice (some ⟨b,0,none⟩) n n) bs cs ⟨F.D,F.rs ++ [(b,Row.c (List.replicate n te.zero).flatten)]⟩):ar P w0 R av (Instr.makeSlice t (.int k m) (.int k' m')) bs cs F K:=by
 rcases Nat.eq_zero_or_pos n with h0 | h0
 · subst h0
   exact ar.y6 hT ht hk he 0 rfl hm hm' h
 · exact ar.nN hT ht hk he n hm hm' h0 hs0 hzl hsmall hroom h
end
end Go.Sx
