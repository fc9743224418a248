/- Parts of the proof: SxA, SxB, SxC, SxD, SxE, SxF, SxG, SxH, SxI, SxJ, SxK, SxL, SxM, SxN, SxO, SxP. -/
import Derived.Orders
import Derived.Below
namespace Go.Sx
set_option linter.unusedVariables false
def nth {α:Type} (d:α):List α→Nat→α
 | [],_=>d
 | x::_,0=>x
 | _::xs,n+1=>nth d xs n
theorem bq {α:Type} (d:α) : ∀ (l:List α) (n:Nat),nth d l n=(l[n]?).getD d
 | [],_=>by simp[nth]
 | _::_,0=>by simp[nth]
 | _::xs,n+1=>by simp[nth,bq d xs n]
def dq (r:Nat→Prop) (o o':Obj):Prop:=
 o=o'∨(∃ c c' e f,o = .cells c e f∧o' = .cells c' e f∧c'.size=c.size∧∀ i,¬ r i→c'[i]? = c[i]?)∨((∀ i,r i)∧∃ es n es' n',o = .map es n∧o' = .map es' n')
theorem dq.refl (r:Nat→Prop) (o:Obj):dq r o o:=.inl rfl
theorem dq.trans {r:Nat→Prop} {a b c:Obj} (h:dq r a b) (k:dq r b c):dq r a c:=by
 rcases h with rfl | ⟨x,y,e,f,rfl,rfl,hs,hi⟩ | ⟨hr,es,n,es',n',rfl,rfl⟩
 · exact k
 · rcases k with rfl | ⟨x',y',e',f',h1,rfl,hs',hi'⟩ | ⟨hr,es,n,es',n',h1,rfl⟩
   · exact .inr (.inl ⟨x,y,e,f,rfl,rfl,hs,hi⟩)
   · cases h1
     exact .inr (.inl ⟨x,y',e,f,rfl,rfl,by omega,fun i hr=>(hi' i hr).trans (hi i hr)⟩)
   · cases h1
 · rcases k with rfl | ⟨x',y',e',f',h1,rfl,hs',hi'⟩ | ⟨hr,es2,n2,es3,n3,h1,rfl⟩
   · exact .inr (.inr ⟨hr,es,n,es',n',rfl,rfl⟩)
   · cases h1
   · exact .inr (.inr ⟨hr,es,n,es3,n3,rfl,rfl⟩)
theorem dq.mono {r r':Nat→Prop} {a b:Obj} (h:dq r a b) (hr : ∀ i,r i→r' i):dq r' a b:=by
 rcases h with rfl | ⟨x,y,e,f,rfl,rfl,hs,hi⟩ | ⟨h1,es,n,es',n',rfl,rfl⟩
 · exact .inl rfl
 · exact .inr (.inl ⟨x,y,e,f,rfl,rfl,hs,fun i hn=>hi i (fun h=>hn (hr i h))⟩)
 · exact .inr (.inr ⟨fun i=>hr i (h1 i),es,n,es',n',rfl,rfl⟩)
theorem dq.eq {r:Nat→Prop} {a b:Obj} (h:dq r a b) (hr : ∀ i,¬ r i):b=a:=by
 rcases h with rfl | ⟨x,y,e,f,rfl,rfl,hs,hi⟩ | ⟨h1,_⟩
 · rfl
 · have:y=x:=Array.ext_getElem? (fun i=>hi i (hr i))
   rw[this]
 · exact absurd (h1 0) (hr 0)
structure cQ (R:Nat→Nat→Prop) (w w':World):Prop where
 os:w'.os=w.os
 tape:w'.tape=w.tape
 output:w'.output=w.output
 size:w.heap.size≤w'.heap.size
 obj : ∀ b o,w.heap[b]? = some o→∃ o',w'.heap[b]? = some o'∧dq (R b) o o'
theorem cQ.refl (R:Nat→Nat→Prop) (w:World):cQ R w w:=⟨rfl,rfl,rfl,Nat.le_refl _,fun _ o h=>⟨o,h,.refl _ _⟩⟩
theorem cQ.trans {R:Nat→Nat→Prop} {a b c:World} (h:cQ R a b) (k:cQ R b c):cQ R a c:=
 ⟨k.os.trans h.os,k.tape.trans h.tape,k.output.trans h.output,Nat.le_trans h.size k.size,fun i o ho=>by
  obtain⟨o1,h1,s1⟩:=h.obj i o ho
  obtain⟨o2,h2,s2⟩:=k.obj i o1 h1
  exact⟨o2,h2,s1.trans s2⟩⟩
theorem cQ.mono {R R':Nat→Nat→Prop} {w w':World} (h:cQ R w w') (hr : ∀ b i,R b i→R' b i):cQ R' w w':=
 ⟨h.os,h.tape,h.output,h.size,fun b o ho=>by
  obtain⟨o',h1,s⟩:=h.obj b o ho
  exact⟨o',h1,s.mono (hr b)⟩⟩
theorem bu {α:Type} {a:Array α} {i:Nat} {x:α} (h:a[i]? = some x):i<a.size:=(Array.getElem?_eq_some_iff.1 h).1
theorem mU {α:Type} {a:Array α} {i:Nat} (h:i<a.size) : ∃ x,a[i]? = some x:=⟨a[i],Array.getElem?_eq_getElem h⟩
theorem cQ.same {R:Nat→Nat→Prop} {w w':World} (h:cQ R w w') {b:Nat} (hb:b<w.heap.size) (hr : ∀ i,¬ R b i):w'.heap[b]? = w.heap[b]?:=by
 obtain⟨o,ho⟩:=mU hb
 obtain⟨o',h',s⟩:=h.obj b o ho
 rw[h',ho,s.eq hr]
abbrev eB (w w':World):Prop:=cQ (fun _ _=>False) w w'
theorem eB.same {w w':World} (h:eB w w') {b:Nat} (hb:b<w.heap.size):w'.heap[b]? = w.heap[b]?:=cQ.same h hb (fun _ h=>h)
theorem eB.x {R:Nat→Nat→Prop} {w w':World} (h:eB w w'):cQ R w w':=h.mono (fun _ _ h=>h.elim)
theorem fT {w w':World} (h1:w'.os=w.os) (h2:w'.tape=w.tape) (h3:w'.output=w.output) (h4:w.heap.size≤w'.heap.size)
 (h5 : ∀ b,b<w.heap.size→w'.heap[b]? = w.heap[b]?):eB w w':=
 ⟨h1,h2,h3,h4,fun b o ho=>⟨o,by rw[h5 b (bu ho),ho],.refl _ _⟩⟩
def Holds (av:Nat→Prop) (w:World) (D:World→Prop):Prop:=
 ∃ F:Nat→Prop,(∀ b,F b→b<w.heap.size∧¬ av b)∧∀ w',(∀ b,F b→w'.heap[b]? = w.heap[b]?)→D w'
theorem Holds.now {av:Nat→Prop} {w:World} {D:World→Prop} (h:Holds av w D):D w:=by
 obtain⟨F,_,h⟩:=h
 exact h w (fun _ _=>rfl)
theorem Holds.imp {av:Nat→Prop} {w:World} {D D':World→Prop} (h:Holds av w D) (hd : ∀ w,D w→D' w):Holds av w D':=by
 obtain⟨F,hF,h⟩:=h
 exact⟨F,hF,fun w' hw=>hd _ (h w' hw)⟩
theorem Holds.pure {av:Nat→Prop} {w:World} {p:Prop} (h:p):Holds av w (fun _=>p):=⟨fun _=>False,fun _ h=>h.elim,fun _ _=>h⟩
theorem Holds.and {av:Nat→Prop} {w:World} {D D':World→Prop} (h:Holds av w D) (h':Holds av w D'):Holds av w (fun w=>D w∧D' w):=by
 obtain⟨F,hF,h⟩:=h
 obtain⟨F',hF',h'⟩:=h'
 exact⟨fun b=>F b∨F' b,fun b hb=>hb.elim (hF b) (hF' b),fun w' hw=>⟨h w' fun b hb=>hw b (.inl hb),h' w' fun b hb=>hw b (.inr hb)⟩⟩
theorem Holds.move {av av':Nat→Prop} {w w':World} {D:World→Prop} (h:Holds av w D) (hs:w.heap.size≤w'.heap.size)
 (hk : ∀ b,b<w.heap.size→¬ av b→w'.heap[b]? = w.heap[b]?) (ha : ∀ b,av' b→av b∨w.heap.size≤b):Holds av' w' D:=by
 obtain⟨F,hF,h⟩:=h
 refine⟨F,fun b hb=>?_,fun w'' hw=>h w'' fun b hb=>?_⟩
 · obtain⟨h1,h2⟩:=hF b hb
   exact⟨by omega,fun h3=>(ha b h3).elim h2 (by omega)⟩
 · obtain⟨h1,h2⟩:=hF b hb
   rw[hw b hb,hk b h1 h2]
theorem Holds.keep {av:Nat→Prop} {w w':World} {D:World→Prop} (h:Holds av w D) (hk:eB w w'):Holds av w' D:=
 h.move hk.size (fun _ hb _=>eB.same hk hb) (fun _ h=>.inl h)
theorem Holds.block {av:Nat→Prop} {w:World} {D:World→Prop} (b:Nat) (hb:b<w.heap.size) (ha : ¬ av b) (h : ∀ w',w'.heap[b]? = w.heap[b]?→D w'):Holds av w D:=
 ⟨fun x=>x=b,fun x hx=>by subst hx;exact⟨hb,ha⟩,fun w' hw=>h w' (hw b rfl)⟩
def Range (w:World) (b o:Nat) (c:List Value):Prop:=
 ∃ arr e,w.heap[b]? = some (.cells arr e (0,0))∧∀ j,j<c.length→arr[o+j]? = c[j]?
def bZ (w:World):List (Nat×Nat)→List (List Value)→Prop
 | [],[]=>True
 | (b,o)::bs,c::cs=>Range w b o c∧bZ w bs cs
 | _,_=>False
theorem Range.of_same {w w':World} {b o:Nat} {c:List Value} (h:Range w b o c) (hs:w'.heap[b]? = w.heap[b]?):Range w' b o c:=by
 obtain⟨arr,e,h1,h2⟩:=h
 exact⟨arr,e,by rw[hs,h1],h2⟩
theorem Range.lt {w:World} {b o:Nat} {c:List Value} (h:Range w b o c):b<w.heap.size:=by
 obtain⟨arr,e,h1,_⟩:=h
 exact bu h1
theorem bZ.of_same {w w':World} : ∀ {bs:List (Nat×Nat)} {cs:List (List Value)},bZ w bs cs→(∀ x∈bs,w'.heap[x.1]? = w.heap[x.1]?)→bZ w' bs cs
 | [],[],_,_=>trivial
 | (b,o)::bs,c::cs,h,hs=>⟨h.1.of_same (hs (b,o) (List.mem_cons_self ..)),bZ.of_same h.2 (fun x hx=>hs x (List.mem_cons_of_mem _ hx))⟩
 | [],_::_,h,_=>h.elim
 | _::_,[],h,_=>h.elim
theorem bZ.lt {w:World} : ∀ {bs:List (Nat×Nat)} {cs:List (List Value)},bZ w bs cs→∀ x∈bs,x.1<w.heap.size
 | [],[],_,_,hx=>by simp at hx
 | (b,o)::bs,c::cs,h,x,hx=>by
  rcases List.mem_cons.1 hx with rfl | hx
  · exact h.1.lt
  · exact bZ.lt h.2 x hx
 | [],_::_,h,_,_=>h.elim
 | _::_,[],h,_,_=>h.elim
theorem bZ.get {w:World} : ∀ {bs:List (Nat×Nat)} {cs:List (List Value)},bZ w bs cs→∀ i,i<cs.length→Range w (nth (0,0) bs i).1 (nth (0,0) bs i).2 (nth [] cs i)∧i<bs.length
 | [],[],_,i,hi=>by simp at hi
 | (b,o)::bs,c::cs,h,0,_=>⟨h.1,by simp⟩
 | (b,o)::bs,c::cs,h,i+1,hi=>by
  have:=bZ.get h.2 i (by simpa using hi)
  exact⟨this.1,by simp[this.2]⟩
 | [],_::_,h,_,_=>h.elim
 | _::_,[],h,_,_=>h.elim
theorem bZ.snoc {w:World} {b o:Nat} {c:List Value} (hr:Range w b o c) : ∀ {bs:List (Nat×Nat)} {cs:List (List Value)},bZ w bs cs→bZ w (bs ++ [(b,o)]) (cs ++ [c])
 | [],[],_=>⟨hr,trivial⟩
 | _::_,_::_,h=>⟨h.1,bZ.snoc hr h.2⟩
 | [],_::_,h=>h.elim
 | _::_,[],h=>h.elim
theorem bZ.len {w:World} : ∀ {bs:List (Nat×Nat)} {cs:List (List Value)},bZ w bs cs→cs.length=bs.length
 | [],[],_=>rfl
 | _::_,_::_,h=>by simp[bZ.len h.2]
 | [],_::_,h=>h.elim
 | _::_,[],h=>h.elim
theorem bZ.put {w w':World} : ∀ {bs:List (Nat×Nat)} {cs:List (List Value)} (i:Nat) (c':List Value),bZ w bs cs→(bs.map (·.1)).Nodup→
 (∀ x∈bs,x.1≠(nth (0,0) bs i).1→w'.heap[x.1]? = w.heap[x.1]?)→i<bs.length→Range w' (nth (0,0) bs i).1 (nth (0,0) bs i).2 c'→bZ w' bs (cs.set i c')
 | [],[],i,_,_,_,_,hi,_=>by simp at hi
 | (b,o)::bs,c::cs,0,c',h,hn,hs,_,hr=>by
  refine⟨hr,bZ.of_same h.2 fun x hx=>hs x (List.mem_cons_of_mem _ hx) ?_⟩
  simp only[List.map_cons,List.nodup_cons] at hn
  intro he
  exact hn.1 (List.mem_map.2 ⟨x,hx,he⟩)
 | (b,o)::bs,c::cs,i+1,c',h,hn,hs,hi,hr=>by
  simp only[List.map_cons,List.nodup_cons] at hn
  have hi':i<bs.length:=by simpa using hi
  refine⟨h.1.of_same (hs (b,o) (List.mem_cons_self ..) ?_),bZ.put i c' h.2 hn.2 (fun x hx hne=>hs x (List.mem_cons_of_mem _ hx) hne) hi' hr⟩
  intro he
  apply hn.1
  have hm:nth (0,0) bs i∈bs:=by
   rw[bq,List.getElem?_eq_getElem hi'];exact List.getElem_mem hi'
  exact List.mem_map.2 ⟨_,hm,he.symm⟩
 | [],_::_,_,_,h,_,_,_,_=>h.elim
 | _::_,[],_,_,h,_,_,_,_=>h.elim
inductive Row where
 | c (l:List Value)
 | m (es:Array MapEntry) (clock:Nat)
 | o (x:Obj)
instance:Coe (List Value) Row:=⟨Row.c⟩
def fC (w:World) (b:Nat):Row→Prop
 | .c c=>∃ e,w.heap[b]? = some (.cells c.toArray e (0,0))
 | .m es k=>w.heap[b]? = some (.map es k)
 | .o x=>w.heap[b]? = some x
theorem fC.lt {w:World} {b:Nat} {c:Row} (h:fC w b c):b<w.heap.size:=by
 cases c with
 | c l=>
  obtain⟨e,h⟩:=h
  exact bu h
 | m es k=>exact bu h
 | o x=>exact bu h
theorem fC.of_same {w w':World} {b:Nat} {c:Row} (h:fC w b c) (hs:w'.heap[b]? = w.heap[b]?):fC w' b c:=by
 cases c with
 | c l=>
  obtain⟨e,h⟩:=h
  exact⟨e,by rw[hs,h]⟩
 | m es k=>
  show w'.heap[b]? = some (.map es k)
  rw[hs]
  exact h
 | o x=>
  show w'.heap[b]? = some x
  rw[hs]
  exact h
structure Fx where
 D:World→Prop
 rs:List (Nat×Row)
structure Fx.Le (F' F:Fx):Prop where
 rows:F.rs.Sublist F'.rs
 data : ∀ w,F'.D w→F.D w
theorem Fx.Le.refl (F:Fx):Fx.Le F F:=⟨List.Sublist.refl _,fun _ h=>h⟩
def Fx.and (F F':Fx):Fx:=⟨fun w=>F.D w∧F'.D w,F.rs++F'.rs⟩
def Av (av:Nat→Prop) (bs:List (Nat×Nat)) (rs:List (Nat×Row)) (b:Nat):Prop:=av b∨(∃ x∈bs,x.1=b)∨∃ r∈rs,r.1=b
structure vh (av:Nat→Prop) (n:Nat) (w:World) (F:Fx):Prop where
 rows : ∀ r∈F.rs,fC w r.1 r.2∧n≤r.1
 nd:(F.rs.map (·.1)).Nodup
 data:Holds (fun b=>av b∨∃ r∈F.rs,r.1=b) w F.D
def CM (r:Row):Prop:=(∃ l,r=Row.c l)∨∃ es k,r=Row.m es k
@[simp] theorem zk (l : List Value) : CM (Row.c l) := .inl ⟨l, rfl⟩
def Ad (w0:World) (R:Nat→Nat→Prop) (av:Nat→Prop) (r:Nat×Row):Prop:=w0.heap.size≤r.1∨(¬ av r.1∧(∀ i,R r.1 i)∧CM r.2)
structure St (w0:World) (R:Nat→Nat→Prop) (av:Nat→Prop) (w:World) (bs:List (Nat×Nat)) (cs:List (List Value)) (F:Fx):Prop where
 keep:cQ R w0 w
 box:bZ w bs cs
 nd:(bs.map (·.1)++F.rs.map (·.1)).Nodup
 own : ∀ i,i<bs.length→w0.heap.size≤(nth (0,0) bs i).1∨∀ j,j<(nth [] cs i).length→R (nth (0,0) bs i).1 ((nth (0,0) bs i).2+j)
 avlt : ∀ b,av b→b<w0.heap.size
 rows : ∀ r∈F.rs,fC w r.1 r.2∧Ad w0 R av r
 data:Holds (Av av bs F.rs) w F.D
theorem gT {bs:List (Nat×Nat)} {i:Nat} (h:i<bs.length):nth (0,0) bs i∈bs:=by
 rw[bq,List.getElem?_eq_getElem h];exact List.getElem_mem h
section St
variable {w0:World} {R:Nat→Nat→Prop} {av:Nat→Prop} {w w':World} {bs:List (Nat×Nat)} {cs:List (List Value)} {F:Fx}
theorem St.AU (h:St w0 R av w bs cs F):(bs.map (·.1)).Nodup:=(List.nodup_append.1 h.nd).1
theorem St.now (h:St w0 R av w bs cs F):F.D w:=h.data.now
theorem St.imp (h:St w0 R av w bs cs F) {F':Fx} (hd:Fx.Le F F'):St w0 R av w bs cs F':=by
 have hm : ∀ r∈F'.rs,r∈F.rs:=fun r hr=>hd.rows.subset hr
 refine⟨h.keep,h.box,?_,h.own,h.avlt,fun r hr=>h.rows r (hm r hr),?_⟩
 · exact h.nd.sublist (List.Sublist.append (List.Sublist.refl _) (hd.rows.map _))
 · exact(h.data.imp hd.data).move (Nat.le_refl _) (fun _ _ _=>rfl) (fun b hb=>.inl (by
    rcases hb with hb | hb | ⟨r,hr,rfl⟩
    · exact .inl hb
    · exact .inr (.inl hb)
    · exact .inr (.inr ⟨r,hm r hr,rfl⟩)))
theorem St.zQ (h:St w0 R av w bs cs F) {b:Nat} (hb:Av av bs F.rs b):b<w.heap.size:=by
 rcases hb with hb | ⟨x,hx,rfl⟩ | ⟨r,hr,rfl⟩
 · exact Nat.lt_of_lt_of_le (h.avlt b hb) h.keep.size
 · exact h.box.lt x hx
 · exact(h.rows r hr).1.lt
theorem St.nM (h:St w0 R av w bs cs F) (hk:eB w w'):St w0 R av w' bs cs F:=
 ⟨h.keep.trans hk.x,h.box.of_same fun x hx=>eB.same hk (h.box.lt x hx),h.nd,h.own,h.avlt,
  fun r hr=>⟨(h.rows r hr).1.of_same (eB.same hk (h.rows r hr).1.lt),(h.rows r hr).2⟩,h.data.keep hk⟩
theorem St.kept (h:St w0 R av w bs cs F) (hk:eB w w') {F':Fx} (hd:vh (Av av bs F.rs) w.heap.size w' F'):St w0 R av w' bs cs (F.and F'):=by
 have h':=h.nM hk
 refine⟨h'.keep,h'.box,?_,h'.own,h'.avlt,fun r hr=>?_,?_⟩
 · show(bs.map (·.1)++(F.rs++F'.rs).map (·.1)).Nodup
   rw[List.map_append,← List.append_assoc,List.nodup_append]
   refine⟨h.nd,hd.nd,fun x hx y hy hxy=>?_⟩
   subst hxy
   obtain⟨r,hr,rfl⟩:=List.mem_map.1 hy
   have h1:=(hd.rows r hr).2
   rcases List.mem_append.1 hx with hx | hx
   · obtain⟨z,hz,he⟩:=List.mem_map.1 hx
     have:=h.box.lt z hz
     omega
   · obtain⟨z,hz,he⟩:=List.mem_map.1 hx
     have:=(h.rows z hz).1.lt
     omega
 · rcases List.mem_append.1 hr with hr | hr
   · exact h'.rows r hr
   · exact⟨(hd.rows r hr).1,.inl (Nat.le_trans h.keep.size (hd.rows r hr).2)⟩
 · refine Holds.and ?_ ?_
   · refine h.data.move hk.size (fun b hb _=>eB.same hk hb) (fun b hb=>?_)
     rcases hb with hb | hb | ⟨r,hr,rfl⟩
     · exact .inl (.inl hb)
     · exact .inl (.inr (.inl hb))
     · rcases List.mem_append.1 hr with hr | hr
       · exact .inl (.inr (.inr ⟨r,hr,rfl⟩))
       · exact .inr (hd.rows r hr).2
   · refine hd.data.move (Nat.le_refl _) (fun _ _ _=>rfl) (fun b hb=>.inl ?_)
     rcases hb with hb | hb | ⟨r,hr,rfl⟩
     · exact .inl (.inl hb)
     · exact .inl (.inr (.inl hb))
     · rcases List.mem_append.1 hr with hr | hr
       · exact .inl (.inr (.inr ⟨r,hr,rfl⟩))
       · exact .inr ⟨r,hr,rfl⟩
theorem St.new (h:St w0 R av w bs cs F) (c:List Value) (e:TypeId) :
 St w0 R av { w with heap:=w.heap.push (.cells c.toArray e) } (bs ++ [(w.heap.size,0)]) (cs ++ [c]) F:=by
 have hk:eB w { w with heap:=w.heap.push (.cells c.toArray e) }:=
  fT rfl rfl rfl (by simp) (fun b hb=>by simp[Array.getElem?_push,Nat.ne_of_lt hb])
 have hst:=h.nM hk
 refine⟨hst.keep,bZ.snoc ?_ hst.box,?_,?_,hst.avlt,hst.rows,?_⟩
 · exact⟨c.toArray,e,by simp,fun j hj=>by simp⟩
 · have hnd:=h.nd
   rw[List.nodup_append] at hnd ⊢
   obtain⟨n1,n2,n3⟩:=hnd
   refine⟨?_,n2,fun x hx y hy hxy=>?_⟩
   · rw[List.map_append,List.nodup_append]
     refine⟨n1,by simp,?_⟩
     intro a ha b hb
     simp at hb
     obtain⟨x,hx,rfl⟩:=List.mem_map.1 ha
     have:=h.box.lt x hx
     omega
   · rw[List.map_append] at hx
     rcases List.mem_append.1 hx with hx | hx
     · exact n3 x hx y hy hxy
     · simp at hx
       obtain⟨r,hr,he⟩:=List.mem_map.1 hy
       have:=(h.rows r hr).1.lt
       omega
 · intro i hi
   have hl:=h.box.len
   rw[bq,bq]
   by_cases hib:i<bs.length
   · rw[List.getElem?_append_left hib,List.getElem?_append_left (by omega)]
     have:=h.own i hib
     rwa [bq,bq] at this
   · have:i=bs.length:=by simp at hi;omega
     subst this
     left
     have:=h.keep.size
     simp
     exact this
 · exact h.data.move hk.size (fun b hb _=>eB.same hk hb) (fun b hb=>by
    rcases hb with hb | ⟨x,hx,rfl⟩ | hb
    · exact .inl (.inl hb)
    · rcases List.mem_append.1 hx with hx | hx
      · exact .inl (.inr (.inl ⟨x,hx,rfl⟩))
      · simp at hx;subst hx;exact .inr (Nat.le_refl _)
    · exact .inl (.inr (.inr hb)))
theorem St.put (h:St w0 R av w bs cs F) (i:Nat) (hi:i<bs.length) (c':List Value) (hlen:c'.length=(nth [] cs i).length)
 (hw:cQ (fun b o=>b=(nth (0,0) bs i).1∧(nth (0,0) bs i).2≤o∧o<(nth (0,0) bs i).2+(nth [] cs i).length) w w')
 (hr:Range w' (nth (0,0) bs i).1 (nth (0,0) bs i).2 c'):St w0 R av w' bs (cs.set i c') F:=by
 have hoth : ∀ b,b<w.heap.size→b≠(nth (0,0) bs i).1→w'.heap[b]? = w.heap[b]?:=fun b hb hne=>hw.same hb (fun _ hR=>hne hR.1)
 have hcl:=h.box.len
 refine⟨?_,h.box.put i c' h.AU (fun x hx hne=>hoth _ (h.box.lt x hx) hne) hi hr,h.nd,?_,h.avlt,fun r hr'=>?_,?_⟩
 · refine⟨hw.os.trans h.keep.os,hw.tape.trans h.keep.tape,hw.output.trans h.keep.output,Nat.le_trans h.keep.size hw.size,fun b o ho=>?_⟩
   obtain⟨o1,h1,s1⟩:=h.keep.obj b o ho
   obtain⟨o2,h2,s2⟩:=hw.obj b o1 h1
   refine⟨o2,h2,s1.trans (s2.mono fun k hk=>?_)⟩
   obtain⟨hb,hk1,hk2⟩:=hk
   rcases h.own i hi with ho' | ho'
   · have:=bu ho
     omega
   · have:=ho' (k - (nth (0,0) bs i).2) (by omega)
     rw[hb]
     rwa [show(nth (0,0) bs i).2+(k - (nth (0,0) bs i).2)=k from by omega] at this
 · intro j hj
   have:=h.own j hj
   rw[bq,bq] at this ⊢
   by_cases hij:i=j
   · subst hij
     rw[List.getElem?_set_self (by omega)]
     rw[bq,bq] at *
     simp only[Option.getD_some]
     rw[hlen]
     exact this
   · rw[List.getElem?_set_ne hij];exact this
 · have hne:r.1≠(nth (0,0) bs i).1:=fun he=>(List.nodup_append.1 h.nd).2.2 _ (List.mem_map.2 ⟨_,gT hi,rfl⟩) _ (List.mem_map.2 ⟨r,hr',rfl⟩) he.symm
   exact⟨(h.rows r hr').1.of_same (hoth _ (h.rows r hr').1.lt hne),(h.rows r hr').2⟩
 · exact h.data.move hw.size (fun b hb hna=>hoth b hb (fun he=>hna (.inr (.inl ⟨_,gT hi,he.symm⟩)))) (fun _ h=>.inl h)
end St
def ao (F F':Fx):Prop:=∀ w0 R av w bs cs,St w0 R av w bs cs F→St w0 R av w bs cs F'
theorem ao.refl (F:Fx):ao F F:=fun _ _ _ _ _ _ h=>h
theorem ao.trans {F G H:Fx} (h:ao F G) (k:ao G H):ao F H:=fun _ _ _ _ _ _ hs=>k _ _ _ _ _ _ (h _ _ _ _ _ _ hs)
theorem ao.of_le {F F':Fx} (h:Fx.Le F F'):ao F F':=fun _ _ _ _ _ _ hs=>hs.imp h
theorem ao.imp {D D':World→Prop} {rs:List (Nat×Row)} (h : ∀ w,D w→D' w):ao ⟨D,rs⟩ ⟨D',rs⟩:=.of_le ⟨List.Sublist.refl _,h⟩
theorem ao.bare {D D':World→Prop} {rs:List (Nat×Row)} (h : ∀ w,D w→D' w):ao ⟨D,rs⟩ ⟨D',[]⟩:=.of_le ⟨List.nil_sublist _,h⟩
theorem St.bF {w0:World} {R:Nat→Nat→Prop} {av:Nat→Prop} {w:World} {bs:List (Nat×Nat)} {cs:List (List Value)} {F F':Fx} (h:St w0 R av w bs cs F) (he:ao F F'):St w0 R av w bs cs F':=he _ _ _ _ _ _ h
end Go.Sx
namespace Go.Sx
set_option linter.unusedVariables false
inductive SV where
 | v (x:Value)
 | p (i o:Nat)
 | g (c pol:Bool) (x:SV)
 | any
def ptr (bs:List (Nat×Nat)) (i o:Nat):Value:=.pointer (some ⟨(nth (0,0) bs i).1,(nth (0,0) bs i).2+o,none⟩)
def cK (bs:List (Nat×Nat)):SV→Value→Prop
 | .v x,y=>y=x
 | .p i o,y=>y=ptr bs i o∧i<bs.length
 | .g c pol x,y=>c=pol→cK bs x y
 | .any,_=>True
structure aY (bs:List (Nat×Nat)) (tm:List SV) (a:Array Value):Prop where
 len:tm.length=a.size
 ok : ∀ t,cK bs (nth .any tm t) (a.getD t undef)
inductive TK where
 | int (k:IntKind)
 | bool
 | str
 | slice (e:TypeId)
 | arr (n:Nat) (e:TypeId)
 | map (k e:TypeId)
 | struct
 | ptr (e:TypeId)
 | other
def TK.agg:TK→Bool
 | .arr _ _ | .struct=>true
 | _=>false
def cX:TypeDesc→TK
 | .int k=>.int k
 | .bool=>.bool
 | .string=>.str
 | .slice e=>.slice e
 | .array n e=>.arr n e
 | .map k e=>.map k e
 | .struct _=>.struct
 | .pointer e=>.ptr e
 | _=>.other
structure TI where
 k:TK
 size:Nat
 zero:List Value
 offs:List (Nat×Nat×Bool)
 bytes:Nat
def gg (P:Program) (t:TypeId):Option TI:=
 match P.info? t with
 | none=>none
 | some i=>match P.underlying t,i.zero with
  | some d,some z=>match d with
   | .struct fs=>match fs.all (fun f=>(P.info? f.type).isSome&&(P.underlying f.type).isSome) with
    | true=>some ⟨.struct,i.size,z.cells.toList,fs.toList.map fun f=>(f.offset,P.cellsOf f.type,((P.underlying f.type).map fun d=>(cX d).agg).getD false),i.bytes⟩
    | false=>none
   | d=>some ⟨cX d,i.size,z.cells.toList,[],i.bytes⟩
  | _,_=>none
abbrev dy:=List (Nat×TI)
def look:dy→Nat→Option TI
 | [],_=>none
 | (t,x)::r,n=>match Nat.beq t n with
  | true=>some x
  | false=>look r n
def bt (P:Program) (aT:dy):Prop:=∀ t x,look aT t=some x→gg P t=some x
theorem pO {P:Program} : ∀ {aT:dy},aT.map (fun e=>gg P e.1)=aT.map (fun e=>some e.2)→bt P aT
 | [],_,_,_,h=>by simp[look] at h
 | (t,x)::r,h,n,y,hl=>by
  simp only[List.map_cons,List.cons.injEq] at h
  simp only[look] at hl
  split at hl
  · rename_i hb
    have:t=n:=Nat.eq_of_beq_eq_true hb
    subst this
    cases hl
    exact h.1
  · exact pO h.2 n y hl
def dK {α:Type}:List α→Nat→(α→Prop)→Prop
 | [],_,_=>False
 | x::_,0,K=>K x
 | _::xs,n+1,K=>dK xs n K
def jd {α:Type}:List α→Nat→α→(List α→Prop)→Prop
 | [],_,_,_=>False
 | _::xs,0,v,K=>K (v::xs)
 | x::xs,n+1,v,K=>jd xs n v (fun ys=>K (x::ys))
def sQ {α:Type}:List α→α→(List α→Prop)→Prop
 | [],v,K=>K [v]
 | x::xs,v,K=>sQ xs v (fun ys=>K (x::ys))
def h_:List Value→Nat→Nat→(List Value→Prop)→Prop
 | _,0,0,K=>K []
 | x::xs,0,n+1,K=>h_ xs 0 n (fun ys=>K (x::ys))
 | _::xs,o+1,n,K=>h_ xs o n K
 | [],_,_,_=>False
def eh:List Value→Nat→List Value→(List Value→Prop)→Prop
 | xs,0,[],K=>K xs
 | _::xs,0,y::ys,K=>eh xs 0 ys (fun zs=>K (y::zs))
 | x::xs,o+1,ys,K=>eh xs o ys (fun zs=>K (x::zs))
 | [],_,_,_=>False
def uJ:List Value→Nat→Prop→Prop
 | [],0,K=>K
 | _::xs,n+1,K=>uJ xs n K
 | _,_,_=>False
def jU:Value→(List Value→Prop)→Prop
 | .agg ⟨l⟩,K=>K l
 | .bool b,K=>K [.bool b]
 | .int k n,K=>K [.int k n]
 | .string s,K=>K [.string s]
 | .pointer a,K=>K [.pointer a]
 | .slice a n c,K=>K [.slice a n c]
 | .map r,K=>K [.map r]
 | .func a b c,K=>K [.func a b c]
 | .nilFunc,K=>K [.nilFunc]
 | .iface t v,K=>K [.iface t v]
 | .nilIface,K=>K [.nilIface]
 | _,_=>False
theorem bg {α:Type} (d:α) : ∀ {l:List α} {n:Nat} {K:α→Prop},dK l n K→n<l.length∧K (nth d l n)
 | [],_,_,h=>h.elim
 | _::_,0,_,h=>⟨by simp,h⟩
 | _::xs,n+1,K,h=>by
  have:=bg d (l:=xs) h
  exact⟨by simp[this.1],this.2⟩
theorem cD {α:Type} : ∀ {l:List α} {n:Nat} {v:α} {K:List α→Prop},jd l n v K→n<l.length∧K (l.set n v)
 | [],_,_,_,h=>h.elim
 | _::_,0,_,_,h=>⟨by simp,h⟩
 | x::xs,n+1,v,K,h=>by
  have:=cD (l:=xs) h
  exact⟨by simp[this.1],this.2⟩
theorem jX {α:Type} : ∀ {l:List α} {v:α} {K:List α→Prop},sQ l v K→K (l ++ [v])
 | [],_,_,h=>h
 | x::xs,v,K,h=>jX (l:=xs) h
theorem ea : ∀ {l:List Value} {o n:Nat} {K:List Value→Prop},h_ l o n K→o+n≤l.length∧K ((l.drop o).take n)
 | l,0,0,K,h=>by
  unfold h_ at h
  exact⟨by simp,by simpa using h⟩
 | x::xs,0,n+1,K,h=>by
  have:=ea (l:=xs) h
  exact⟨by simp;omega,by simpa using this.2⟩
 | _::xs,o+1,n,K,h=>by
  have h':h_ xs o n K:=by unfold h_ at h;exact h
  have:=ea (l:=xs) h'
  exact⟨by simp;omega,by simpa using this.2⟩
 | [],0,n+1,K,h=>by simp[h_] at h
 | [],o+1,n,K,h=>by unfold h_ at h;exact h.elim
theorem dT : ∀ {l:List Value} {o:Nat} {m:List Value} {K:List Value→Prop},eh l o m K→o+m.length≤l.length∧K (l.take o++m++l.drop (o+m.length))
 | xs,0,[],K,h=>by
  unfold eh at h
  exact⟨by simp,by simpa using h⟩
 | x::xs,0,y::ys,K,h=>by
  have:=dT (l:=xs) h
  exact⟨by simp;omega,by simpa using this.2⟩
 | x::xs,o+1,ys,K,h=>by
  have h':eh xs o ys (fun zs=>K (x::zs)):=by unfold eh at h;exact h
  have:=dT (l:=xs) h'
  refine⟨by simp;omega,?_⟩
  have h2:=this.2
  rw[show o+1+ys.length=(o+ys.length)+1 from by omega]
  simpa using h2
 | [],0,y::ys,K,h=>by simp[eh] at h
 | [],o+1,ys,K,h=>by unfold eh at h;exact h.elim
theorem gy : ∀ {l:List Value} {n:Nat} {K:Prop},uJ l n K→l.length=n∧K
 | [],0,K,h=>⟨rfl,h⟩
 | _::xs,n+1,K,h=>by
  have:=gy (l:=xs) h
  exact⟨by simp[this.1],this.2⟩
 | [],n+1,K,h=>h.elim
 | _::_,0,K,h=>h.elim
theorem eF : ∀ {x:Value} {K:List Value→Prop},jU x K→K x.cells.toList
 | .agg ⟨l⟩,K,h=>h
 | .bool b,K,h=>h
 | .int k n,K,h=>h
 | .string s,K,h=>h
 | .pointer a,K,h=>h
 | .slice a n c,K,h=>h
 | .map r,K,h=>h
 | .func a b c,K,h=>h
 | .nilFunc,K,h=>h
 | .iface t v,K,h=>h
 | .nilIface,K,h=>h
 | .float ..,K,h=>h.elim
 | .complex ..,K,h=>h.elim
 | .chan ..,K,h=>h.elim
 | .tuple ..,K,h=>h.elim
abbrev KT:=List SV→List (Nat×Nat)→List (List Value)→Fx→Prop
abbrev KV:=Value→List (Nat×Nat)→List (List Value)→Fx→Prop
abbrev KU:=List (Nat×Nat)→List (List Value)→Fx→Prop
def bT:Bool→Prop→Prop→Prop
 | true,A,_=>A
 | false,_,B=>B
theorem bT.split {b:Bool} {A B:Prop} (h:b=true→A) (h':b=false→B):bT b A B:=by
 cases b
 · exact h' rfl
 · exact h rfl
theorem bT.yes {b:Bool} {A B:Prop} (hb:b=true) (h:A):bT b A B:=by subst hb;exact h
theorem bT.no {b:Bool} {A B:Prop} (hb:b=false) (h:B):bT b A B:=by subst hb;exact h
structure aa (a b:Bool) (K:Prop):Prop where
 same:a=b
 rest:K
theorem aa.of {a:Bool} {K:Prop} (h:K):aa a a K:=⟨rfl,h⟩
structure zM (b:Int) (K:Prop):Prop where
 ne:b≠0
 rest:K
def jm:List Nat→Nat→Bool
 | [],_=>false
 | x::xs,n=>match Nat.beq x n with
  | true=>true
  | false=>jm xs n
def jy (tm:List SV) (as:List Nat):Operand→(SV→Prop)→Prop
 | .tmp t,K=>dK tm t fun sv=>match jm as t with
  | false=>K sv
  | true=>match sv with
   | .g _ _ x=>K x
   | _=>False
 | .const v,K=>K (.v v)
 | .global g,K=>K (.v (.pointer (some ⟨g,0,none⟩)))
 | .func f,K=>K (.v (.func (.func f) #[] #[]))
def vK (bs:List (Nat×Nat)):SV→(Value→Prop)→Prop
 | .v x,K=>K x
 | .p i o,K=>dK bs i fun b=>match b with
  | (k,s)=>K (.pointer (some ⟨k,s+o,none⟩))
 | _,_=>False
def gb (tm:List SV) (as:List Nat) (bs:List (Nat×Nat)) (x:Operand) (K:Value→Prop):Prop:=jy tm as x fun sv=>vK bs sv K
def oL (tm:List SV) (as:List Nat) (bs:List (Nat×Nat)):List Operand→(List Value→Prop)→Prop
 | [],K=>K []
 | x::xs,K=>gb tm as bs x fun v=>oL tm as bs xs fun vs=>K (v::vs)
def ze (tm:List SV) (as:List Nat) (bs:List (Nat×Nat)):Option Operand→(Option Value→Prop)→Prop
 | none,K=>K none
 | some x,K=>gb tm as bs x fun v=>K (some v)
def qS (tm:List SV) (as:List Nat) (bs:List (Nat×Nat)):List (Nat×Operand)→(List (Nat×Value)→Prop)→Prop
 | [],K=>K []
 | (i,x)::xs,K=>gb tm as bs x fun v=>qS tm as bs xs fun vs=>K ((i,v)::vs)
def tg (c:Bool) (sa sb:SV) (K:SV→Prop):Prop:=
 match sa,sb with
 | .v (.bool x),.v (.bool y)=>K (.v (.bool (cond c x y)))
 | .g c1 true (.v (.bool x)),.v (.bool false)=>aa c c1 (K (.v (.bool (c&&x))))
 | .v (.bool true),.g c1 false (.v (.bool y))=>aa c c1 (K (.v (.bool (c||y))))
 | a,b=>bT c (K a) (K b)
def bits (op:BinOp) (k:IntKind) (a b:Int):Int:=
 let x:=BitVec.ofInt k.bits a
 let y:=BitVec.ofInt k.bits b
 match op with
 | .and=>k.wrap (x &&& y).toNat
 | .or=>k.wrap (x ||| y).toNat
 | .xor=>k.wrap (x ^^^ y).toNat
 | _=>k.wrap (x &&& ~~~y).toNat
def bJ (a b:Int):Bool:=a == b
def kr (a b:Int):Bool:=a != b
def lz (a b:Int):Bool:=decide (a<b)
def mX (a b:Int):Bool:=decide (a≤b)
def mr (a b:Int):Bool:=decide (a>b)
def gQ (a b:Int):Bool:=decide (a≥b)
theorem aO (a b:Int):bJ a b=(a == b):=rfl
theorem aN (a b:Int):kr a b=(a != b):=rfl
theorem au (a b:Int):lz a b=decide (a<b):=rfl
theorem aJ (a b:Int):mX a b=decide (a≤b):=rfl
theorem aH (a b:Int):mr a b=decide (a>b):=rfl
theorem aI (a b:Int):gQ a b=decide (a≥b):=rfl
attribute [irreducible] bJ kr lz mX mr gQ
def ov (op:BinOp) (k:IntKind) (a b:Int) (K:SV→Prop) (E:Prop):Prop:=
 match op with
 | .add=>K (.v (.int k (k.wrap (a+b))))
 | .sub=>K (.v (.int k (k.wrap (a - b))))
 | .mul=>K (.v (.int k (k.wrap (a*b))))
 | .quo=>zM b (K (.v (.int k (k.wrap (a.tdiv b)))))
 | .rem=>zM b (K (.v (.int k (a.tmod b))))
 | .and=>K (.v (.int k (bits .and k a b)))
 | .or=>K (.v (.int k (bits .or k a b)))
 | .xor=>K (.v (.int k (bits .xor k a b)))
 | .andNot=>K (.v (.int k (bits .andNot k a b)))
 | .eql=>K (.v (.bool (bJ a b)))
 | .neq=>K (.v (.bool (kr a b)))
 | .lss=>K (.v (.bool (lz a b)))
 | .leq=>K (.v (.bool (mX a b)))
 | .gtr=>K (.v (.bool (mr a b)))
 | .geq=>K (.v (.bool (gQ a b)))
 | _=>E
def j7:IntKind→IntKind→Bool
 | .i8,.i8 | .i16,.i16 | .i32,.i32 | .i64,.i64 | .u8,.u8 | .u16,.u16 | .u32,.u32 | .u64,.u64=>true
 | _,_=>false
def wo (aT:dy) (t:TypeId):Bool:=match look aT t with
 | some ti=>match ti.k with
  | .bool=>true
  | _=>false
 | none=>false
def wL (aT:dy) (op:BinOp) (t:TypeId) (x y:SV) (K:SV→Prop) (E:Prop):Prop:=
 match x,y with
 | .v (.int k a),.v (.int k' b)=>match j7 k k' with
  | true=>ov op k a b K E
  | false=>E
 | .v (.bool a),.v (.bool b)=>match op,wo aT t with
  | .eql,true=>K (.v (.bool (a == b)))
  | .neq,true=>K (.v (.bool (!(a == b))))
  | _,_=>E
 | _,_=>E
def zU (op:UnOp) (x:SV) (K:SV→Prop) (E:Prop):Prop:=
 match op,x with
 | .not,.v (.bool b)=>K (.v (.bool (!b)))
 | .neg,.v (.int k n)=>K (.v (.int k (k.wrap (0 - n))))
 | _,_=>E
def fS (ti:TI) (x:SV) (f:Nat) (K:SV→Prop) (E:Prop):Prop:=
 match ti.k with
 | .struct=>dK ti.offs f fun z=>match z with
  | (off,0,_)=>E
  | (off,_+1,_)=>match x with
   | .p i o=>K (.p i (o+off))
   | .v (.pointer (some a))=>K (.v (.pointer (some (a.add off))))
   | _=>E
 | _=>E
def fG (aT:dy) (ti:TI) (x i:SV) (K:SV→Prop) (E:Prop):Prop:=
 match x with
 | .p b o=>match i with
  | .v (.int _ (.ofNat j))=>match ti.k with
   | .arr n e=>match look aT e with
    | some te=>match Nat.blt j n with
     | true=>K (.p b (o+j*te.size))
     | false=>E
    | none=>E
   | _=>E
  | _=>E
 | _=>E
def oZ (ti:TI) (x:SV) (f:Nat) (K:SV→Prop) (E:Prop):Prop:=
 match ti.k,x with
 | .struct,.v (.agg ⟨l⟩)=>dK ti.offs f fun z=>match z with
  | (off,sz,true)=>h_ l off sz fun m=>K (.v (.agg ⟨m⟩))
  | (off,_,false)=>dK l off fun v=>K (.v v)
 | _,_=>E
def nN (ti:TI) (cs:List (List Value)) (i o:Nat) (K:SV→Prop):Prop:=
 dK cs i fun c=>match ti.k.agg with
  | true=>h_ c o ti.size fun l=>K (.v (.agg ⟨l⟩))
  | false=>dK c o fun v=>K (.v v)
def sZ (ti:TI) (x:SV) (K:SV→Prop) (E:Prop):Prop:=
 match ti.k,x with
 | .slice _,.v (.slice _ n _)=>K (.v (.int .i64 (n:Int)))
 | .str,.v (.string s)=>K (.v (.int .i64 (s.size:Int)))
 | .arr n _,_=>K (.v (.int .i64 (n:Int)))
 | _,_=>E
def ej (place:Nat→(Nat→Nat→Prop)→Prop):List (Nat×Value)→List Value→(List Value→Prop)→Prop
 | [],z,K=>K z
 | (i,v)::r,z,K=>jU v fun l=>place i fun off size=>uJ l size (eh z off l fun z'=>ej place r z' K)
def cJ (ti:TI) (i:Nat) (K:Nat→Nat→Prop):Prop:=dK ti.offs i fun z=>match z with
 | (off,sz,_)=>K off sz
def gL (n s:Nat) (i:Nat) (K:Nat→Nat→Prop):Prop:=match Nat.blt i n with
 | true=>K (i*s) s
 | false=>False
def qD (ti:TI):Bool:=match ti.k with
 | .slice _=>true
 | .map _ _=>true
 | _=>match ti.zero with
  | [.pointer none,.slice none _ _]=>true
  | [.pointer none]=>match ti.k with
   | .struct=>true
   | _=>false
  | _=>match ti.size with
   | 23 | 24=>false
   | n=>Nat.blt 20 n
def Ar (aT:dy) (t:TypeId):Bool:=match look aT t with
 | some ti=>qD ti
 | none=>false
def ma (aT:dy) (as:List Nat) (op:Op) (tm:List SV) (bs:List (Nat×Nat)) (cs:List (List Value)) (K:SV→Prop) (E:Prop):Prop:=
 match op with
 | .move x=>jy tm as x K
 | .assign x=>jy tm as x K
 | .pick c a b=>jy tm as c fun sc=>match sc with
  | .v (.bool c')=>jy tm as a fun sa=>jy tm as b fun sb=>tg c' sa sb K
  | _=>E
 | .load t x=>jy tm as x fun sx=>match sx with
  | .p i o=>match look aT t with
   | some ti=>nN ti cs i o K
   | none=>E
  | _=>E
 | .nilCheck x=>jy tm as x fun sx=>match sx with
  | .p i o=>K (.p i o)
  | .v (.pointer (some a))=>K (.v (.pointer (some a)))
  | .v (.func (.func f) a b)=>K (.v (.func (.func f) a b))
  | _=>E
 | .binOp .rem t x (.const (.int k' (.ofNat (n+1)))) _=>jy tm as x fun sx=>match sx with
  | .v (.int k a)=>match j7 k k' with
   | true=>K (.v (.int k (a.tmod (.ofNat (n+1)))))
   | false=>E
  | _=>E
 | .binOp .quo t x (.const (.int k' (.ofNat (n+1)))) _=>jy tm as x fun sx=>match sx with
  | .v (.int k a)=>match j7 k k' with
   | true=>K (.v (.int k (k.wrap (a.tdiv (.ofNat (n+1))))))
   | false=>E
  | _=>E
 | .binOp op t x y _=>jy tm as x fun sx=>jy tm as y fun sy=>wL aT op t sx sy K E
 | .unOp op _ x=>jy tm as x fun sx=>zU op sx K E
 | .convert src dst x=>jy tm as x fun sx=>match sx with
  | .v (.int _ n)=>match look aT src,look aT dst with
   | some _,some ti=>match ti.k with
    | .int k=>K (.v (.int k (k.wrap n)))
    | _=>E
   | _,_=>E
  | _=>E
 | .indexAddr t x i=>jy tm as x fun sx=>match sx with
  | .p b o=>jy tm as i fun si=>match look aT t with
   | some ti=>fG aT ti (.p b o) si K E
   | none=>E
  | _=>E
 | .fieldAddr s x f=>jy tm as x fun sx=>match look aT s with
  | some ti=>fS ti sx f K E
  | none=>E
 | .field s x f=>jy tm as x fun sx=>match look aT s with
  | some ti=>oZ ti sx f K E
  | none=>E
 | .extract x i=>jy tm as x fun sx=>match sx with
  | .v (.tuple ⟨l⟩)=>dK l i fun v=>K (.v v)
  | _=>E
 | .makeFunc fn ⟨first⟩ ⟨cap⟩=>oL tm as bs first fun vs=>oL tm as bs cap fun us=>K (.v (.func fn ⟨vs⟩ ⟨us⟩))
 | .build t ⟨ps⟩=>match look aT t with
  | some ti=>match ti.k with
   | .struct=>match qD ti with
    | true=>E
    | false=>qS tm as bs ps fun vs=>ej (cJ ti) vs ti.zero fun z=>K (.v (.agg ⟨z⟩))
   | .arr n e=>match look aT e with
    | some te=>qS tm as bs ps fun vs=>ej (gL n te.size) vs ti.zero fun z=>K (.v (.agg ⟨z⟩))
    | none=>E
   | _=>E
  | none=>E
 | .call ⟨.builtin .len,⟨[x]⟩,⟨[t]⟩⟩=>jy tm as x fun sx=>match look aT t with
  | some ti=>sZ ti sx K E
  | none=>E
 | .call ⟨.builtin .min,⟨[x,y]⟩,⟨[_,_]⟩⟩=>jy tm as x fun sx=>jy tm as y fun sy=>match sx,sy with
  | .v (.int k a),.v (.int k' b)=>match j7 k k' with
   | true=>K (.v (.int k (if b<a then b else a)))
   | false=>E
  | _,_=>E
 | _=>E
section
variable (P:Program) (w0:World) (R:Nat→Nat→Prop) (av:Nat→Prop)
def ar (m:Sem Value) (bs:List (Nat×Nat)) (cs:List (List Value)) (D:Fx) (K:KV):Prop:=
 ∀ w,St w0 R av w bs cs D→∃ v w' ext cs' D',m.run P w = .ok v w'∧St w0 R av w' (bs++ext) cs' D'∧K v (bs++ext) cs' D'
def aM (m:Sem Unit) (bs:List (Nat×Nat)) (cs:List (List Value)) (D:Fx) (K:KU):Prop:=
 ∀ w,St w0 R av w bs cs D→∃ w' ext cs' D',m.run P w = .ok () w'∧St w0 R av w' (bs++ext) cs' D'∧K (bs++ext) cs' D'
def fB (f:FuncId):Prop:=∃ fn,P.funcs[f]? = some fn∧fn.body.isSome=true∧(fn.name == "runtime.NumGoroutine")=false
def aw (f:FuncId) (vs:List Value) (bs:List (Nat×Nat)) (cs:List (List Value)) (D:Fx) (K:KV):Prop:=
 fB P f∧∀ w,St w0 R av w bs cs D→Calls P f vs.toArray w fun e w'=>∃ v ext cs' D',e = .returned v∧St w0 R av w' (bs++ext) cs' D'∧K v (bs++ext) cs' D'
def ft (K:KT) (a:Act) (w:World):Prop:=
 a.defers = []∧∃ tm bs cs D,aY bs tm a.tmps∧St w0 R av w bs cs D∧K tm bs cs D
def xA (K:Exit→KT) (e:Exit) (a:Act) (w:World):Prop:=ft w0 R av (K e) a w
def sD (o:Oper) (tm:List SV) (bs:List (Nat×Nat)) (cs:List (List Value)) (D:Fx) (K:KT):Prop:=
 ∀ a w Q,aY bs tm a→St w0 R av w bs cs D→o.wp P ⟨a,[]⟩ w (ft w0 R av K) Q
def az (c:Code) (tm:List SV) (bs:List (Nat×Nat)) (cs:List (List Value)) (D:Fx) (K:Exit→KT):Prop:=
 ∀ a w,aY bs tm a→St w0 R av w bs cs D→c.wp P (xA w0 R av K) ⟨a,[]⟩ w
end
section
variable {P:Program} {w0:World} {R:Nat→Nat→Prop} {av:Nat→Prop} {bs:List (Nat×Nat)} {cs:List (List Value)} {D:Fx}
theorem cr {m:Sem Value} {K:KV}:ar P w0 R av m bs cs D K↔∀ w,St w0 R av w bs cs D→∃ v w' ext cs' D',m.run P w = .ok v w'∧St w0 R av w' (bs++ext) cs' D'∧K v (bs++ext) cs' D':=Iff.rfl
theorem dR {m:Sem Unit} {K:KU}:aM P w0 R av m bs cs D K↔∀ w,St w0 R av w bs cs D→∃ w' ext cs' D',m.run P w = .ok () w'∧St w0 R av w' (bs++ext) cs' D'∧K (bs++ext) cs' D':=Iff.rfl
theorem ct {f:FuncId} {vs:List Value} {K:KV}:aw P w0 R av f vs bs cs D K↔fB P f∧∀ w,St w0 R av w bs cs D→Calls P f vs.toArray w fun e w'=>∃ v ext cs' D',e = .returned v∧St w0 R av w' (bs++ext) cs' D'∧K v (bs++ext) cs' D':=Iff.rfl
theorem gH {o:Oper} {tm:List SV} {K:KT}:sD P w0 R av o tm bs cs D K↔∀ a w Q,aY bs tm a→St w0 R av w bs cs D→o.wp P ⟨a,[]⟩ w (ft w0 R av K) Q:=Iff.rfl
theorem bI {c:Code} {tm:List SV} {K:Exit→KT}:az P w0 R av c tm bs cs D K↔∀ a w,aY bs tm a→St w0 R av w bs cs D→c.wp P (xA w0 R av K) ⟨a,[]⟩ w:=Iff.rfl
end
attribute [irreducible] aw ar aM sD az
def fin (dst:Option Tmp) (tm:List SV) (sv:SV) (K:List SV→Prop):Prop:=match dst with
 | some d=>jd tm d sv K
 | none=>K tm
def xo (b:Builtin) (ts:Array TypeId) (t:TypeId) (vs:Array Value):Option (Sem Value):=
 match b with
 | .append=>some (Builtin.append_ ts t vs)
 | .cap=>some (Builtin.cap_ ts t vs)
 | .copy=>some (Builtin.copy_ ts t vs)
 | .max=>some (Builtin.max_ ts t vs)
 | .min=>some (Builtin.min_ ts t vs)
 | .len=>some (Builtin.len_ ts t vs)
 | .delete=>some (Builtin.delete_ ts t vs)
 | .clear=>some (Builtin.clear_ ts t vs)
 | _=>none
def aW:Value→Bool
 | .agg _ | .tuple _=>false
 | _=>true
def pY:List Value→Prop→Prop
 | [],K=>K
 | x::xs,K=>match x with
  | .agg _=>False
  | .tuple _=>False
  | _=>pY xs K
theorem nO : ∀ {l:List Value} {K:Prop},pY l K→(∀ v∈l,aW v=true)∧K
 | [],K,h=>⟨by simp,h⟩
 | x::xs,K,h=>by
  have h':aW x=true∧pY xs K:=by cases x<;>simp_all [pY,aW]
  have:=nO h'.2
  refine⟨fun v hv=>?_,this.2⟩
  rcases List.mem_cons.1 hv with rfl | hv
  · exact h'.1
  · exact this.1 v hv
def rW {α:Type}:List α→Nat→(Nat→Prop)→Prop
 | [],n,K=>K n
 | _::xs,n,K=>rW xs (n+1) K
section
variable (P:Program) (aT:dy) (w0:World) (R:Nat→Nat→Prop) (av:Nat→Prop)
def vg (dst:Option Tmp) (c:List Value) (tm:List SV) (bs:List (Nat×Nat)) (cs:List (List Value)) (D:Fx) (K:KT):Prop:=
 rW bs 0 fun n=>∀ b:Nat,sQ bs (b,0) fun bs'=>sQ cs c fun cs'=>fin dst tm (.p n 0) fun tm'=>K tm' bs' cs' D
def yr (o:Oper) (tm:List SV) (bs:List (Nat×Nat)) (cs:List (List Value)) (D:Fx) (K:KT):Prop:=
 let KF:KV:=fun v bs cs D=>fin o.dst tm (.v v) fun tm'=>K tm' bs cs D
 let KS:KU:=fun bs cs D=>fin o.dst tm (.v undef) fun tm'=>K tm' bs cs D
 match o.op with
 | .alloc e=>match look aT e with
  | some ti=>match qD ti with
   | true=>ar P w0 R av (Instr.alloc e true (.tuple #[])) bs cs D KF
   | false=>vg o.dst ti.zero tm bs cs D K
  | none=>sD P w0 R av o tm bs cs D K
 | .box e x=>match Ar aT e with
  | true=>gb tm [] bs x fun v=>ar P w0 R av (Instr.box e v) bs cs D KF
  | false=>gb tm [] bs x fun v=>jU v fun c=>vg o.dst c tm bs cs D K
 | .store t a x=>jy tm [] a fun sa=>match sa with
  | .p i s=>match look aT t with
   | some ti=>gb tm [] bs x fun v=>jU v fun l=>pY l (uJ l ti.size (dK cs i fun c=>eh c s l fun c'=>jd cs i c' fun cs'=>KS bs cs' D))
   | none=>sD P w0 R av o tm bs cs D K
  | .v av'=>gb tm [] bs x fun v=>aM P w0 R av (Instr.storeAt t av' v) bs cs D KS
  | _=>False
 | .load t x=>gb tm [] bs x fun v=>ar P w0 R av (Instr.loadAt t v) bs cs D KF
 | .buildSlice t n ⟨ps⟩=>qS tm [] bs ps fun vs=>ar P w0 R av (Instr.buildSlice t n ⟨vs⟩) bs cs D KF
 | .build t ⟨ps⟩=>qS tm [] bs ps fun vs=>ar P w0 R av (Instr.build t ⟨vs⟩) bs cs D KF
 | .indexAddr t x i=>gb tm [] bs x fun v=>gb tm [] bs i fun n=>ar P w0 R av (Instr.indexAt t v n) bs cs D KF
 | .index t x i=>gb tm [] bs x fun v=>gb tm [] bs i fun n=>ar P w0 R av (Instr.index t v n) bs cs D KF
 | .slice t x lo hi mx=>gb tm [] bs x fun v=>ze tm [] bs lo fun a=>ze tm [] bs hi fun b=>ze tm [] bs mx fun c=>ar P w0 R av (Instr.sliceAt t v a b c) bs cs D KF
 | .convert s d x=>gb tm [] bs x fun v=>ar P w0 R av (convert s d v) bs cs D KF
 | .makeSlice t l c=>gb tm [] bs l fun v=>gb tm [] bs c fun u=>ar P w0 R av (Instr.makeSlice t v u) bs cs D KF
 | .binOp op t x y _=>gb tm [] bs x fun v=>gb tm [] bs y fun u=>ar P w0 R av (do eqGuard op t x y v u;binOp op t v u) bs cs D KF
 | .unOp op _ x=>gb tm [] bs x fun v=>ar P w0 R av (Op.unary op v) bs cs D KF
 | .makeMap t none=>ar P w0 R av (Instr.makeMap t none) bs cs D KF
 | .lookup t x i ok=>gb tm [] bs x fun v=>gb tm [] bs i fun n=>ar P w0 R av (Instr.lookup t v n ok) bs cs D KF
 | .mapUpdate t m k x=>gb tm [] bs m fun v=>gb tm [] bs k fun n=>gb tm [] bs x fun u=>aM P w0 R av (Instr.mapUpdate t v n u) bs cs D KS
 | .range t x=>gb tm [] bs x fun v=>ar P w0 R av (Instr.range t v) bs cs D KF
 | .next it s=>gb tm [] bs it fun v=>ar P w0 R av (Instr.next v s o.type) bs cs D KF
 | .entry it=>gb tm [] bs it fun v=>ar P w0 R av (Instr.entry v) bs cs D KF
 | .makeInterface t x=>gb tm [] bs x fun v=>ar P w0 R av (Instr.makeInterface t v) bs cs D KF
 | .call ⟨.builtin b,⟨xs⟩,ts⟩=>oL tm [] bs xs fun vs=>match xo b ts o.type ⟨vs⟩ with
  | some m=>ar P w0 R av m bs cs D KF
  | none=>sD P w0 R av o tm bs cs D K
 | .call ⟨.value x,⟨xs⟩,ts⟩=>jy tm [] x fun sf=>match sf with
  | .v (.func (.func f) ⟨first⟩ ⟨cap⟩)=>match first,cap with
   | [],[]=>oL tm [] bs xs fun vs=>aw P w0 R av f vs bs cs D KF
   | _,_=>oL tm [] bs xs fun vs=>aw P w0 R av f (first++vs++cap) bs cs D KF
  | _=>sD P w0 R av o tm bs cs D K
 | _=>sD P w0 R av o tm bs cs D K
def zi (o:Oper) (tm:List SV) (bs:List (Nat×Nat)) (cs:List (List Value)) (D:Fx) (K:KT):Prop:=
 ma aT [] o.op tm bs cs (fun sv=>fin o.dst tm sv fun tm'=>K tm' bs cs D) (yr P aT w0 R av o tm bs cs D K)
def uS (tm:List SV) (as:List (Nat×Bool)):Operand→Bool
 | .tmp t=>match as.find? (fun x=>Nat.beq x.1 t) with
  | some x=>x.2
  | none=>match nth .any tm t with
   | .p _ _=>true
   | _=>false
 | _=>false
def eR (aT:dy) (t:TypeId):Bool:=match look aT t with
 | some ti=>match ti.k with
  | .bool | .int _=>true
  | _=>false
 | none=>false
def zj (aT:dy) (t:TypeId):Bool:=match look aT t with
 | some ti=>match ti.k with
  | .slice _ | .str=>true
  | _=>false
 | none=>false
def xq (tm:List SV) (as:List (Nat×Bool)):Op→Option Bool
 | .move x | .assign x=>some (uS tm as x)
 | .load _ x=>match uS tm as x with
  | true=>some false
  | false=>none
 | .fieldAddr _ x _=>some (uS tm as x)
 | .field _ _ _ | .extract _ _=>some false
 | .unOp _ t _=>match eR aT t with
  | true=>some false
  | false=>none
 | .convert s d _=>match eR aT s,eR aT d with
  | true,true=>some false
  | _,_=>none
 | .binOp op t _ y _=>match eR aT t with
  | true=>match op with
   | .shl | .shr=>none
   | .quo | .rem=>match y with
    | .const (.int _ (.ofNat (n+1)))=>some false
    | _=>none
   | _=>some false
  | false=>none
 | .call ⟨.builtin .len,⟨[_]⟩,⟨[t]⟩⟩=>match zj aT t with
  | true=>some false
  | false=>none
 | _=>none
def fc (o:Oper) (j:Nat) (pol:Bool):Bool:=match o.guard with
 | some (j',pol')=>match Nat.beq j j',pol,pol' with
  | true,true,true=>true
  | true,false,false=>true
  | _,_,_=>false
 | none=>false
def pL (j:Nat) (pol:Bool) (tm:List SV):List Oper→List (Nat×Bool)→Bool
 | [],_=>true
 | o::r,as=>match fc o j pol with
  | false=>match o.guard with
   | none=>true
   | some _=>false
  | true=>match xq aT tm as o.op with
   | some f=>pL j pol tm r (match o.dst with | some d=>(d,f)::as | none=>as)
   | none=>false
def ox (j:Nat) (pol:Bool) (t:Nat):List Oper→Bool
 | []=>false
 | o::r=>match fc o j pol with
  | true=>match o.dst with
   | some d=>match Nat.beq d t with
    | true=>true
    | false=>ox j pol t r
   | none=>ox j pol t r
  | false=>ox j pol t r
def lG (all:List Oper) (j:Nat) (pol:Bool) (as:List Nat):List Operand→Bool
 | []=>true
 | .tmp t::r=>match jm as t with
  | true=>lG all j pol as r
  | false=>match ox j pol t all with
   | true=>false
   | false=>lG all j pol as r
 | _::r=>lG all j pol as r
def qq (all:List Oper) (j:Nat) (pol:Bool):List Oper→List Nat→Bool
 | [],_=>true
 | o::r,as=>match fc o j pol with
  | false=>true
  | true=>match lG all j pol as o.op.operands.toList with
   | true=>qq all j pol r (match o.dst with | some d=>d::as | none=>as)
   | false=>false
def uu (all:List Oper) (j:Nat) (pol:Bool) (tm:List SV) (l:List Oper):Bool:=
 match pL aT j pol tm l [] with
 | true=>qq all j pol l []
 | false=>false
structure yo where
 j:Nat
 pol:Bool
 c:Bool
 as:List Nat
 t:Nat
def xJ (o:Oper) (pol c:Bool) (t:Nat) (tm:List SV) (bs:List (Nat×Nat)) (cs:List (List Value)) (D:Fx) (KN:KT):Prop:=
 match pol with
 | true=>bT c (jd tm t (.v (.bool true)) fun tm=>zi P aT w0 R av o tm bs cs D KN)
  (jd tm t (.v (.bool false)) fun tm=>fin o.dst tm (.v undef) fun tm=>KN tm bs cs D)
 | false=>bT c (jd tm t (.v (.bool true)) fun tm=>fin o.dst tm (.v undef) fun tm=>KN tm bs cs D)
  (jd tm t (.v (.bool false)) fun tm=>zi P aT w0 R av o tm bs cs D KN)
def xi (o:Oper) (G:yo) (tm:List SV) (bs:List (Nat×Nat)) (cs:List (List Value)) (D:Fx) (KG:yo→KT) (E:Prop):Prop:=
 ma aT G.as o.op tm bs cs (fun sv=>match o.dst with
  | some d=>match Nat.beq d G.t with
   | true=>False
   | false=>jd tm d (.g G.c G.pol sv) fun tm'=>KG ⟨G.j,G.pol,G.c,d::G.as,G.t⟩ tm' bs cs D
  | none=>False) E
def vj (all:List Oper) (j:Nat) (tm:List SV) (K:Nat→Bool→Prop) (N:Prop):Prop:=
 dK all j fun oj=>match oj.dst with
  | none=>False
  | some t=>dK tm t fun sg=>match sg with
   | .v (.bool c)=>K t c
   | .v (.tuple _)=>N
   | _=>False
def oh (all:List Oper) (o:Oper) (r:List Oper) (j:Nat) (pol:Bool) (tm:List SV) (bs:List (Nat×Nat)) (cs:List (List Value)) (D:Fx) (KN:KT) (KG:yo→KT):Prop:=
 vj all j tm (fun t c=>match uu aT all j pol tm (o::r) with
  | true=>xi aT o ⟨j,pol,c,[],t⟩ tm bs cs D KG (xJ P aT w0 R av o pol c t tm bs cs D KN)
  | false=>xJ P aT w0 R av o pol c t tm bs cs D KN) (fin o.dst tm (.v undef) fun tm=>KN tm bs cs D)
def gi (all:List Oper):List Oper→Option yo→List SV→List (Nat×Nat)→List (List Value)→Fx→KT→Prop
 | [],_,tm,bs,cs,D,K=>K tm bs cs D
 | o::r,g,tm,bs,cs,D,K=>match o.guard with
  | none=>zi P aT w0 R av o tm bs cs D fun tm bs cs D=>gi all r none tm bs cs D K
  | some (j,pol)=>match g with
   | none=>oh P aT w0 R av all o r j pol tm bs cs D (fun tm bs cs D=>gi all r none tm bs cs D K) (fun G tm bs cs D=>gi all r (some G) tm bs cs D K)
   | some G=>match fc o G.j G.pol with
    | true=>xi aT o G tm bs cs D (fun G tm bs cs D=>gi all r (some G) tm bs cs D K) False
    | false=>oh P aT w0 R av all o r j pol tm bs cs D (fun tm bs cs D=>gi all r none tm bs cs D K) (fun G tm bs cs D=>gi all r (some G) tm bs cs D K)
def xc:Code→List SV→List (Nat×Nat)→List (List Value)→Fx→(Exit→KT)→Prop
 | .skip,tm,bs,cs,D,K=>K .normal tm bs cs D
 | .region _ ⟨ops⟩ false,tm,bs,cs,D,K=>gi P aT w0 R av ops ops none tm bs cs D (K .normal)
 | .seq a b,tm,bs,cs,D,K=>xc a tm bs cs D fun e tm bs cs D=>match e with
  | .normal=>xc b tm bs cs D K
  | e=>K e tm bs cs D
 | .cond c a b,tm,bs,cs,D,K=>jy tm [] c fun sv=>match sv with
  | .v (.bool t)=>bT t (xc a tm bs cs D K) (xc b tm bs cs D K)
  | _=>False
 | .block id c,tm,bs,cs,D,K=>xc c tm bs cs D fun e tm bs cs D=>match e with
  | .exit i=>match Nat.beq i id with
   | true=>K .normal tm bs cs D
   | false=>K (.exit i) tm bs cs D
  | e=>K e tm bs cs D
 | .ret,tm,bs,cs,D,K=>K .ret tm bs cs D
 | .exit id,tm,bs,cs,D,K=>K (.exit id) tm bs cs D
 | c,tm,bs,cs,D,K=>az P w0 R av c tm bs cs D K
end
end Go.Sx
namespace Go.Sx
set_option linter.unusedVariables false
theorem run_bind {α β:Type} (P:Program) (m:Sem α) (f:α→Sem β) (w:World) :
 (m >>= f).run P w=match m.run P w with | .ok a w'=>(f a).run P w' | .halt h w'=>.halt h w':=by
 show(Sem.bind m f).run P w=_
 induction m generalizing w with
 | pure a=>rfl
 | load m a k ih=>
  simp only[Sem.bind,Sem.run]
  split
  · exact ih _ w
  · split
    · exact ih _ w
    · rfl
 | store m a v k ih=>
  cases v<;>simp only[Sem.bind,Sem.run]<;>first | rfl | skip
  all_goals
   split
   · split
     · rfl
     · exact ih _
   · split
     · exact ih _
     · rfl
 | new o k ih=>simp only[Sem.bind,Sem.run];exact ih _ _
 | shape r k ih=>simp only[Sem.bind,Sem.run];exact ih _ _
 | freeze a n k ih=>simp only[Sem.bind,Sem.run];exact ih _
 | frozen a k ih=>simp only[Sem.bind,Sem.run];exact ih _ _
 | getObj r k ih=>
  simp only[Sem.bind,Sem.run]
  split
  · rfl
  · exact ih _ _
  · rfl
 | setObj r o k ih=>
  simp only[Sem.bind,Sem.run]
  split
  · rfl
  · exact ih _
  · rfl
 | choose q k ih=>
  simp only[Sem.bind,Sem.run]
  split
  · exact ih _ _
  · exact ih _ _
 | sys c k ih=>simp only[Sem.bind,Sem.run];exact ih _ _
 | program k ih=>simp only[Sem.bind,Sem.run];exact ih _ _
 | mark m k ih=>simp only[Sem.bind,Sem.run];exact ih _
 | halt h=>rfl
theorem ai {α β:Type} {P:Program} {m:Sem α} {f:α→Sem β} {w w':World} {a:α} (h:m.run P w = .ok a w') :
 (m >>= f).run P w=(f a).run P w':=by rw[run_bind,h]
theorem run_pure {α:Type} (P:Program) (a:α) (w:World):(pure a:Sem α).run P w = .ok a w:=rfl
theorem run_typeInfo {P:Program} {t:TypeId} {i:TypeInfo} (h:P.info? t=some i) (w:World):(typeInfo t).run P w = .ok i w:=by
 unfold typeInfo
 rw[ai (m:=program) (a:=P) (w':=w) rfl]
 simp only[h]
 rfl
theorem aC {P:Program} {t:TypeId} {d:TypeDesc} (h:P.underlying t=some d) (w:World):(underlying t).run P w = .ok d w:=by
 unfold underlying
 rw[ai (m:=program) (a:=P) (w':=w) rfl]
 simp only[h]
 rfl
theorem run_sizeOf {P:Program} {t:TypeId} {i:TypeInfo} (h:P.info? t=some i) (w:World):(sizeOf t).run P w = .ok i.size w:=by
 unfold sizeOf
 rw[ai (run_typeInfo h w)]
 rfl
theorem dH {P:Program} {t:TypeId} {i:TypeInfo} {z:Value} (h:P.info? t=some i) (hz:i.zero=some z) (w:World):(zeroValue t).run P w = .ok z w:=by
 unfold zeroValue
 rw[ai (run_typeInfo h w)]
 simp only[hz]
 rfl
theorem df {P:Program} {t:TypeId} {d:TypeDesc} (h:P.underlying t=some d) (w:World):(isAgg t).run P w = .ok (cX d).agg w:=by
 unfold isAgg
 rw[ai (aC h w)]
 cases d<;>rfl
theorem aD {P:Program} {t:TypeId} {x:TI} (h:gg P t=some x) :
 ∃ i d z,P.info? t=some i∧P.underlying t=some d∧i.zero=some z∧x.k=cX d∧x.size=i.size∧x.zero=z.cells.toList∧
  x.bytes=i.bytes∧∀ fs,d = .struct fs→(∀ f∈fs,(P.info? f.type).isSome=true∧(P.underlying f.type).isSome=true)∧x.offs=fs.toList.map fun f=>(f.offset,P.cellsOf f.type,((P.underlying f.type).map fun d=>(cX d).agg).getD false):=by
 unfold gg at h
 split at h
 · cases h
 · rename_i i hi
   split at h
   · rename_i d z hd hz
     cases d with
     | struct fs=>
      simp only at h
      split at h
      · rename_i ha
        cases h
        refine⟨i,.struct fs,z,hi,hd,hz,rfl,rfl,rfl,rfl,fun fs' e=>?_⟩
        cases e
        exact⟨fun f hf=>by have:=Array.all_eq_true_iff_forall_mem.1 ha f hf;simpa using this,rfl⟩
      · cases h
     | _=>
      cases h
      exact⟨i,_,z,hi,hd,hz,rfl,rfl,rfl,rfl,fun fs e=>by cases e⟩
   · cases h
theorem cK.mono {bs ext:List (Nat×Nat)} : ∀ {s:SV} {y:Value},cK bs s y→cK (bs++ext) s y
 | .v _,_,h=>h
 | .p i o,y,h=>by
  obtain⟨h1,h2⟩:=h
  refine⟨?_,by simp;omega⟩
  rw[h1]
  unfold ptr
  rw[bq,bq,List.getElem?_append_left h2]
 | .g c pol x,_,h=>fun hc=>cK.mono (h hc)
 | .any,_,_=>trivial
theorem aY.mono {bs ext:List (Nat×Nat)} {tm:List SV} {a:Array Value} (h:aY bs tm a):aY (bs++ext) tm a:=
 ⟨h.len,fun t=>(h.ok t).mono⟩
theorem aY.set {bs:List (Nat×Nat)} {tm:List SV} {a:Array Value} (h:aY bs tm a) (d:Nat) {s:SV} {y:Value} (hs:cK bs s y) :
 aY bs (tm.set d s) (a.setIfInBounds d y):=by
 refine⟨by simp[h.len],fun t=>?_⟩
 have hl:=h.len
 have ht:=h.ok t
 rw[bq] at ht ⊢
 by_cases hd:d=t
 · subst hd
   by_cases hlt:d<tm.length
   · rw[List.getElem?_set_self hlt]
     have:d<a.size:=by omega
     simpa [Array.getD,this] using hs
   · rw[List.getElem?_eq_none (by simp;omega)]
     exact trivial
 · rw[List.getElem?_set_ne hd]
   have:(a.setIfInBounds d y).getD t undef=a.getD t undef:=by
    simp only[Array.getD_eq_getD_getElem?,Array.getElem?_setIfInBounds_ne hd]
   rw[this]
   exact ht
theorem aY.put {bs:List (Nat×Nat)} {tm:List SV} {a:Array Value} (h:aY bs tm a) (dst:Option Tmp) {s:SV} {y:Value} (hs:cK bs s y) {K:List SV→Prop}
 (hk:fin dst tm s K) : ∃ tm',aY bs tm' (Act.put ⟨a,[]⟩ dst y).tmps∧K tm':=by
 cases dst with
 | none=>exact⟨tm,h,hk⟩
 | some d=>
  obtain⟨_,hk⟩:=cD hk
  exact⟨_,h.set d hs,hk⟩
def uN (c pol:Bool) (as:List Nat) (tm:List SV):Prop:=(∀ t,jm as t=true→∃ x,nth .any tm t = .g c pol x)∧(as≠[]→c=pol)
theorem uN.nil (tm:List SV):uN true true [] tm:=⟨fun _ h=>by simp[jm] at h,fun h=>absurd rfl h⟩
section
variable {bs:List (Nat×Nat)} {tm:List SV} {a:Array Value} {as:List Nat} {c pol:Bool}
theorem bw (hf:aY bs tm a) (hg:uN c pol as tm) {x:Operand} {K:SV→Prop} (h:jy tm as x K) : ∃ s,cK bs s (Act.eval ⟨a,[]⟩ x)∧K s:=by
 cases x with
 | tmp t=>
  obtain⟨_,h⟩:=bg SV.any h
  split at h
  · exact⟨_,hf.ok t,h⟩
  · rename_i hm
    obtain⟨y,hy⟩:=hg.1 t hm
    rw[hy] at h
    have hok:=hf.ok t
    rw[hy] at hok
    exact⟨y,hok (hg.2 (by intro e;subst e;simp[jm] at hm)),h⟩
 | const v=>exact⟨.v v,rfl,h⟩
 | global g=>exact⟨.v _,rfl,h⟩
 | func f=>exact⟨.v _,rfl,h⟩
theorem pS {s:SV} {y:Value} (hs:cK bs s y) {K:Value→Prop} (h:vK bs s K):K y:=by
 cases s with
 | v x=>cases hs;exact h
 | p i o=>
  obtain⟨rfl,hi⟩:=hs
  obtain⟨_,h⟩:=bg (0,0) h
  exact h
 | g _ _ _=>exact h.elim
 | any=>exact h.elim
theorem a_ (hf:aY bs tm a) (hg:uN c pol as tm) {x:Operand} {K:Value→Prop} (h:gb tm as bs x K):K (Act.eval ⟨a,[]⟩ x):=by
 obtain⟨s,hs,h⟩:=bw hf hg h
 exact pS hs h
theorem dv (hf:aY bs tm a) (hg:uN c pol as tm) : ∀ {xs:List Operand} {K:List Value→Prop},oL tm as bs xs K→K (xs.map (Act.eval ⟨a,[]⟩))
 | [],_,h=>h
 | x::xs,K,h=>dv hf hg (xs:=xs) (a_ hf hg h)
theorem ev (hf:aY bs tm a) (hg:uN c pol as tm) {x:Option Operand} {K:Option Value→Prop} (h:ze tm as bs x K):K (x.map (Act.eval ⟨a,[]⟩)):=by
 cases x with
 | none=>exact h
 | some x=>exact a_ hf hg h
theorem dO (hf:aY bs tm a) (hg:uN c pol as tm) : ∀ {xs:List (Nat×Operand)} {K:List (Nat×Value)→Prop},qS tm as bs xs K→K (xs.map fun x=>(x.1,Act.eval ⟨a,[]⟩ x.2))
 | [],_,h=>h
 | (i,x)::xs,K,h=>dO hf hg (xs:=xs) (a_ hf hg h)
end
theorem Range.cell {w:World} {b o:Nat} {c:List Value} (h:Range w b o c) {j:Nat} (hj:j<c.length):w.cell? ⟨b,o+j,none⟩=c[j]?:=by
 obtain⟨arr,e,h1,h2⟩:=h
 simp[World.cell?,h1,h2 j hj]
theorem Addr.bG (b o n:Nat):Addr.add ⟨b,o,none⟩ n=⟨b,o+n,none⟩:=by
 unfold Addr.add
 split
 · rename_i h;subst h;rfl
 · rfl
theorem iw {P:Program} {w:World} {a:Addr} {v:Value} (h:w.cell? a=some v):(load a).run P w = .ok v w:=by
 simp[load,Sem.run,h]
theorem run_loadCellsFrom {P:Program} {w:World} {b o:Nat} : ∀ (l:List Value) (i:Nat) (acc:Array Value),(∀ j,j<l.length→w.cell? ⟨b,o+(i+j),none⟩=l[j]?)→
 (loadCellsFrom ⟨b,o,none⟩ i l.length acc).run P w = .ok (acc++l.toArray) w
 | [],i,acc,_=>by simp[loadCellsFrom]
 | v::l,i,acc,h=>by
  simp only[List.length_cons,loadCellsFrom]
  have h0:w.cell? (Addr.add ⟨b,o,none⟩ i)=some v:=by
   rw[Addr.bG]
   have:=h 0 (by simp)
   simpa using this
  rw[ai (iw h0),run_loadCellsFrom l (i+1) (acc.push v) (fun j hj=>by
   have:=h (j+1) (by simp;omega)
   rw[show o+(i+1+j)=o+(i+(j+1)) from by omega]
   simpa using this)]
  congr 1
  apply Array.toList_inj.1
  simp
theorem run_loadCells {P:Program} {w:World} {b o:Nat} (l:List Value) (h : ∀ j,j<l.length→w.cell? ⟨b,o+j,none⟩=l[j]?) :
 (loadCells ⟨b,o,none⟩ l.length).run P w = .ok ⟨l⟩ w:=by
 unfold loadCells
 rw[run_loadCellsFrom l 0 #[] (fun j hj=>by rw[Nat.zero_add];exact h j hj)]
 simp
theorem ed {P:Program} {w:World} {t:TypeId} {x:TI} (hx:gg P t=some x) (ha:x.k.agg=true) {b o:Nat} (l:List Value) (hl:l.length=x.size)
 (h : ∀ j,j<l.length→w.cell? ⟨b,o+j,none⟩=l[j]?):(loadVar t ⟨b,o,none⟩).run P w = .ok (.agg ⟨l⟩) w:=by
 obtain⟨i,d,z,h1,h2,h3,h4,h5,-,-,-⟩:=aD hx
 unfold loadVar
 rw[ai (df h2 w),← h4,ha]
 simp only[if_true]
 rw[ai (run_sizeOf h1 w),← h5,← hl,ai (run_loadCells l h)]
 rfl
theorem dp {P:Program} {w:World} {t:TypeId} {x:TI} (hx:gg P t=some x) (ha:x.k.agg=false) {b:Addr} {v:Value}
 (h:w.cell? b=some v):(loadVar t b).run P w = .ok v w:=by
 obtain⟨i,d,z,h1,h2,h3,h4,h5,-,-,-⟩:=aD hx
 unfold loadVar
 rw[ai (df h2 w),← h4,ha]
 simp only[Bool.false_eq_true,if_false]
 exact iw h
theorem kM {P:Program} {bs:List (Nat×Nat)} {cs:List (List Value)} {t:TypeId} {x:TI} (hx:gg P t=some x) {i o:Nat} {K:SV→Prop}
 (h:nN x cs i o K) : ∃ v,(∀ w,bZ w bs cs→(Instr.loadAt t (ptr bs i o)).run P w = .ok v w)∧K (.v v):=by
 obtain⟨hi,h⟩:=bg [] h
 have hat:Instr.loadAt t (ptr bs i o)=loadVar t ⟨(nth (0,0) bs i).1,(nth (0,0) bs i).2+o,none⟩:=rfl
 split at h
 · rename_i ha
   obtain⟨h1,h2⟩:=ea h
   refine⟨_,fun w hb=>?_,h2⟩
   obtain⟨hr,_⟩:=hb.get i hi
   rw[hat]
   refine ed hx ha _ (by simp;omega) (fun j hj=>?_)
   simp at hj
   rw[Nat.add_assoc,hr.cell (by omega),List.getElem?_take,if_pos (by omega),List.getElem?_drop]
 · rename_i ha
   obtain⟨h1,h2⟩:=bg (.tuple #[]) h
   refine⟨_,fun w hb=>?_,h2⟩
   obtain⟨hr,_⟩:=hb.get i hi
   rw[hat]
   refine dp hx ha ?_
   rw[hr.cell h1,bq (.tuple #[]) (nth [] cs i) o,List.getElem?_eq_getElem h1]
   rfl
end Go.Sx
namespace Go.Sx
set_option linter.unusedVariables false
theorem bA {P:Program} {m:Sem Value} {v:Value} {w w':World} (h:m.run P w = .ok v w'):(do pure (Next.value (← m)):Sem Next).run P w = .ok (.value v) w':=by
 rw[ai h];rfl
theorem qb {P:Program} {m:Sem Unit} {w w':World} (h:m.run P w = .ok () w'):(do m;pure Next.skip:Sem Next).run P w = .ok .skip w':=by
 rw[ai h];rfl
theorem gU : ∀ {k k':IntKind},j7 k k'=true→k=k':=by
 intro k k' h
 cases k<;>cases k'<;>first | rfl | (simp[j7] at h)
theorem dZ {P:Program} (op:BinOp) (t:TypeId) (x y:Operand) (k k':IntKind) (a b:Int) (w:World):(eqGuard op t x y (.int k a) (.int k' b)).run P w = .ok () w:=by
 cases op<;>rfl
theorem js {P:Program} (op:BinOp) (t:TypeId) (x y:Operand) (a b:Bool) (w:World):(eqGuard op t x y (.bool a) (.bool b)).run P w = .ok () w:=by
 cases op<;>rfl
theorem n6 {P:Program} {op:BinOp} {t:TypeId} {k:IntKind} {a b:Int} {K:SV→Prop} {E:Prop} (h:ov op k a b K E) :
 E∨∃ v s,(∀ w,(binOp op t (.int k a) (.int k b)).run P w = .ok v w)∧(∀ bs,cK bs s v)∧K s:=by
 cases op<;>simp only[ov] at h
 case quo=>
  refine .inr ⟨_,.v _,fun w=>?_,fun _=>rfl,h.rest⟩
  simp[binOp,Op.intDiv,h.ne]
 case rem=>
  refine .inr ⟨_,.v _,fun w=>?_,fun _=>rfl,h.rest⟩
  simp[binOp,Op.intDiv,h.ne]
 case shl=>exact .inl h
 case shr=>exact .inl h
 all_goals
  refine .inr ⟨_,.v _,fun w=>?_,fun _=>rfl,h⟩
  simp[binOp,Op.intArith,Op.intBits,Op.intCmp,bits,aO,aN,au,aJ,aH,aI]
theorem kJ {P:Program} {aT:dy} (hT:bt P aT) {t:TypeId} (h:wo aT t=true):P.underlying t=some .bool:=by
 unfold wo at h
 split at h
 · rename_i ti hl
   obtain⟨i,d,z,h1,h2,h3,h4,h5,-,-,-⟩:=aD (hT _ _ hl)
   rw[h4] at h
   cases d<;>simp[cX] at h
   exact h2
 · cases h
theorem run_equalIn_bool {P:Program} {t:TypeId} (h:P.underlying t=some .bool) (d:Nat) (a b:Bool) (w:World):(Op.equalIn (d+1) t (.bool a) (.bool b)).run P w = .ok (a == b) w:=by
 unfold Op.equalIn
 rw[ai (aC h w)]
 rfl
theorem run_equal_bool {P:Program} {t:TypeId} (h:P.underlying t=some .bool) (a b:Bool) (w:World):(Op.equal t (.bool a) (.bool b)).run P w = .ok (a == b) w:=
 run_equalIn_bool h 9999 a b w
theorem sE {P:Program} {aT:dy} (hT:bt P aT) {bs:List (Nat×Nat)} {op:BinOp} {t:TypeId} {x y:SV} {u v:Value} (hx:cK bs x u) (hy:cK bs y v) {X Y:Operand}
 {K:SV→Prop} {E:Prop} (h:wL aT op t x y K E) :
 E∨∃ r s,(∀ w,(do eqGuard op t X Y u v;binOp op t u v:Sem Value).run P w = .ok r w)∧cK bs s r∧K s:=by
 unfold wL at h
 split at h
 · rename_i k a k' b
   cases hx;cases hy
   split at h
   · rename_i hk
     obtain rfl:=gU hk
     rcases n6 (P:=P) (t:=t) h with h | ⟨r,s,h1,h2,h3⟩
     · exact .inl h
     · exact .inr ⟨r,s,fun w=>by rw[ai (dZ op t X Y _ _ _ _ w)];exact h1 w,h2 bs,h3⟩
   · exact .inl h
 · rename_i a b
   cases hx;cases hy
   split at h
   · rename_i hb
     refine .inr ⟨_,.v _,fun w=>?_,rfl,h⟩
     rw[ai (js _ t X Y _ _ w)]
     show(do pure (Value.bool (← Op.equal t (.bool a) (.bool b))):Sem Value).run P w=_
     rw[ai (run_equal_bool (kJ hT hb) a b w)]
     rfl
   · rename_i hb
     refine .inr ⟨_,.v _,fun w=>?_,rfl,h⟩
     rw[ai (js _ t X Y _ _ w)]
     show(do pure (Value.bool (!(← Op.equal t (.bool a) (.bool b)))):Sem Value).run P w=_
     rw[ai (run_equal_bool (kJ hT hb) a b w)]
     rfl
   · exact .inl h
 · exact .inl h
theorem tS {P:Program} {bs:List (Nat×Nat)} {op:UnOp} {x:SV} {u:Value} (hx:cK bs x u) {K:SV→Prop} {E:Prop} (h:zU op x K E) :
 E∨∃ r s,(∀ w,(Op.unary op u).run P w = .ok r w)∧cK bs s r∧K s:=by
 unfold zU at h
 split at h
 · cases hx;exact .inr ⟨_,.v _,fun w=>rfl,rfl,h⟩
 · cases hx;exact .inr ⟨_,.v _,fun w=>rfl,rfl,h⟩
 · exact .inl h
theorem qL {bs:List (Nat×Nat)} {c:Bool} {x y:SV} {u v:Value} (hx:cK bs x u) (hy:cK bs y v) {K:SV→Prop} (h:tg c x y K) :
 ∃ s,cK bs s (if c then u else v)∧K s:=by
 unfold tg at h
 split at h
 · cases hx;cases hy
   exact⟨.v _,by cases c<;>rfl,h⟩
 · rename_i c1 x
   cases hy
   obtain⟨rfl,h⟩:=h
   refine⟨.v _,?_,h⟩
   cases c
   · rfl
   · have:=hx rfl
     cases this
     rfl
 · rename_i c1 y
   cases hx
   obtain⟨rfl,h⟩:=h
   refine⟨.v _,?_,h⟩
   cases c
   · have:=hy rfl
     cases this
     rfl
   · rfl
 · cases c
   · exact⟨_,hy,h⟩
   · exact⟨_,hx,h⟩
theorem jO {d:TypeDesc} (h:cX d = .struct) : ∃ fs,d = .struct fs:=by
 cases d<;>simp[cX] at h
 exact⟨_,rfl⟩
theorem lE {α β:Type} (f:α→β) (d:α) (e:β) : ∀ (l:List α) (n:Nat),n<l.length→nth e (l.map f) n=f (nth d l n)
 | [],n,h=>by simp at h
 | x::l,0,_=>rfl
 | x::l,n+1,h=>lE f d e l n (by simpa using h)
theorem mv {P:Program} {x:TI} {fs:Array Field} (ho:x.offs=fs.toList.map fun f=>(f.offset,P.cellsOf f.type,((P.underlying f.type).map fun d=>(cX d).agg).getD false))
 {n:Nat} (hn:n<x.offs.length) : ∃ f,fs[n]? = some f∧f∈fs∧nth (0,0,false) x.offs n=(f.offset,P.cellsOf f.type,((P.underlying f.type).map fun d=>(cX d).agg).getD false):=by
 have hl:n<fs.toList.length:=by rw[ho] at hn;simpa using hn
 have hl':n<fs.size:=by simpa using hl
 refine⟨fs[n],Array.getElem?_eq_getElem hl',Array.getElem_mem hl',?_⟩
 rw[ho,lE _ default _ _ _ hl,bq,List.getElem?_eq_getElem hl]
 rfl
theorem jH {P:Program} {bs:List (Nat×Nat)} {s:TypeId} {ti:TI} (hti:gg P s=some ti) {x:SV} {u:Value} (hx:cK bs x u) {f:Nat} {K:SV→Prop} {E:Prop}
 (h:fS ti x f K E):E∨∃ r sv,(∀ w,(Instr.fieldAt s u f).run P w = .ok r w)∧cK bs sv r∧K sv:=by
 unfold fS at h
 split at h
 · rename_i hk
   obtain⟨i,d,z,h1,h2,h3,h4,h5,h6,-,h7⟩:=aD hti
   rw[h4] at hk
   obtain⟨fs,rfl⟩:=jO hk
   obtain⟨hall,ho⟩:=h7 fs rfl
   obtain⟨hn,h⟩:=bg (0,0,false) h
   obtain⟨fd,hf,hm,hnth⟩:=mv ho hn
   rw[hnth] at h
   obtain⟨fi,hfi⟩:=Option.isSome_iff_exists.1 (hall fd hm).1
   have hc:P.cellsOf fd.type=fi.size:=by simp[Program.cellsOf,hfi]
   rw[hc] at h
   cases hsz:fi.size with
   | zero=>rw[hsz] at h;exact .inl h
   | succ n=>
    rw[hsz] at h
    have hplace : ∀ (a:Addr) (w:World),(fieldPlace a fd).run P w = .ok (a.add fd.offset) w:=fun a w=>by
     unfold fieldPlace
     rw[ai (run_sizeOf hfi w),if_neg (by omega)]
     rfl
    simp only at h
    split at h
    · obtain⟨rfl,hi⟩:=hx
      refine .inr ⟨_,.p _ _,fun w=>?_,⟨rfl,hi⟩,h⟩
      unfold Instr.fieldAt
      rw[ai (aC h2 w)]
      simp only[hf]
      rw[ai (m:=Instr.sureAddr _) (a:=⟨_,_,none⟩) (w':=w) rfl,ai (hplace _ w),Addr.bG]
      simp only[ptr,Nat.add_assoc]
      rfl
    · cases hx
      refine .inr ⟨_,.v _,fun w=>?_,rfl,h⟩
      unfold Instr.fieldAt
      rw[ai (aC h2 w)]
      simp only[hf]
      rw[ai (m:=Instr.sureAddr _) (w':=w) rfl,ai (hplace _ w)]
      rfl
    · exact .inl h
 · exact .inl h
theorem u9 {d:TypeDesc} {n:Nat} {e:TypeId} (h:cX d = .arr n e):d = .array n e:=by
 cases d<;>simp[cX] at h
 rw[h.1,h.2]
theorem jQ {P:Program} {aT:dy} (hT:bt P aT) {bs:List (Nat×Nat)} {t:TypeId} {ti:TI} (hti:gg P t=some ti) {x i:SV} {u v:Value} (hx:cK bs x u) (hi:cK bs i v) {K:SV→Prop} {E:Prop}
 (h:fG aT ti x i K E):E∨∃ r sv,(∀ w,(Instr.indexAt t u v).run P w = .ok r w)∧cK bs sv r∧K sv:=by
 unfold fG at h
 split at h
 · rename_i b o
   split at h
   · rename_i k j
     split at h
     · rename_i n e hk
       split at h
       · rename_i te hl
         split at h
         · rename_i hlt
           obtain⟨rfl,hb⟩:=hx
           cases hi
           obtain⟨i1,d1,z1,p1,p2,p3,p4,p5,p6,p7,p8⟩:=aD hti
           obtain⟨i2,d2,z2,q1,q2,q3,q4,q5,q6,q7,q8⟩:=aD (hT _ _ hl)
           rw[p4] at hk
           obtain rfl:=u9 hk
           have hj:j<n:=Nat.le_of_ble_eq_true hlt
           refine .inr ⟨_,.p b (o+j*te.size),fun w=>?_,⟨rfl,hb⟩,h⟩
           unfold Instr.indexAt
           rw[ai (m:=asIntOf (.int k (.ofNat j))) (a:=(k,.ofNat j)) (w':=w) rfl]
           simp only
           rw[ai (aC p2 w)]
           simp only
           rw[ai (m:=Instr.sureAddr _) (a:=⟨_,_,none⟩) (w':=w) rfl,ai (run_pure P _ w),ai (aC p2 w)]
           simp only
           rw[if_pos ⟨by simp,by simpa using hj⟩,ai (run_sizeOf q1 w),← q5,Addr.bG]
           simp only[ptr,Nat.add_assoc]
           rfl
         · exact .inl h
       · exact .inl h
     · exact .inl h
   · exact .inl h
 · exact .inl h
theorem oB {P:Program} {t:TypeId} {i:TypeInfo} {d:TypeDesc} (h1:P.info? t=some i) (h2:P.underlying t=some d) (ha:(cX d).agg=true) (l:List Value) (off:Nat) (w:World) :
 (part t ⟨l⟩ off).run P w = .ok (.agg ⟨(l.drop off).take i.size⟩) w:=by
 unfold part
 rw[ai (df h2 w),ha]
 simp only[if_true]
 rw[ai (run_sizeOf h1 w)]
 simp only[run_pure]
 congr 2
 apply Array.toList_inj.1
 simp[List.extract_eq_take_drop]
theorem om {P:Program} {t:TypeId} {d:TypeDesc} (h2:P.underlying t=some d) (ha:(cX d).agg=false) (l:List Value) (off:Nat) {v:Value} (hv:l[off]? = some v) (w:World) :
 (part t ⟨l⟩ off).run P w = .ok v w:=by
 unfold part
 rw[ai (df h2 w),ha]
 simp[hv]
theorem ot {P:Program} {bs:List (Nat×Nat)} {s:TypeId} {ti:TI} (hti:gg P s=some ti) {x:SV} {u:Value} (hx:cK bs x u) {f:Nat} {K:SV→Prop} {E:Prop}
 (h:oZ ti x f K E):E∨∃ r sv,(∀ w,(Instr.field s u f).run P w = .ok r w)∧cK bs sv r∧K sv:=by
 unfold oZ at h
 split at h
 · rename_i l hk
   cases hx
   obtain⟨i,d,z,h1,h2,h3,h4,h5,h6,-,h7⟩:=aD hti
   rw[h4] at hk
   obtain⟨fs,rfl⟩:=jO hk
   obtain⟨hall,ho⟩:=h7 fs rfl
   obtain⟨hn,h⟩:=bg (0,0,false) h
   obtain⟨fd,hf,hm,hnth⟩:=mv ho hn
   rw[hnth] at h
   obtain⟨fi,hfi⟩:=Option.isSome_iff_exists.1 (hall fd hm).1
   obtain⟨dd,hdd⟩:=Option.isSome_iff_exists.1 (hall fd hm).2
   have hc:P.cellsOf fd.type=fi.size:=by simp[Program.cellsOf,hfi]
   rw[hdd,hc] at h
   have hrun : ∀ w,(Instr.field s (.agg ⟨l⟩) f).run P w=(part fd.type ⟨l⟩ fd.offset).run P w:=fun w=>by
    unfold Instr.field
    rw[ai (aC h2 w)]
    simp only[hf]
    rw[ai (m:=asAgg _) (a:=⟨l⟩) (w':=w) rfl]
   split at h
   · rename_i heq
     simp only[Option.map_some,Option.getD_some,Prod.mk.injEq] at heq
     obtain⟨rfl,rfl,ha⟩:=heq
     obtain⟨h8,h9⟩:=ea h
     exact .inr ⟨_,.v _,fun w=>by rw[hrun];exact oB hfi hdd ha l _ w,rfl,h9⟩
   · rename_i heq
     simp only[Option.map_some,Option.getD_some,Prod.mk.injEq] at heq
     obtain⟨rfl,-,ha⟩:=heq
     obtain⟨h8,h9⟩:=bg (.tuple #[]) h
     exact .inr ⟨_,.v _,fun w=>by rw[hrun];exact om hdd ha l _ (by rw[bq,List.getElem?_eq_getElem h8];rfl) w,rfl,h9⟩
 · exact .inl h
theorem nU (off:Nat) : ∀ (l:List Value) (j:Nat) (z:Array Value),off+j+l.length≤z.size→
 ((l.zipIdx j).foldl (fun cs (x:Value×Nat)=>cs.setIfInBounds (off+x.2) x.1) z).toList=z.toList.take (off+j)++l++z.toList.drop (off+j+l.length)
 | [],j,z,_=>by simp
 | v::l,j,z,h=>by
  simp only[List.length_cons] at h
  simp only[List.zipIdx_cons,List.foldl_cons]
  rw[nU off l (j+1) _ (by simp;omega)]
  have hlt:off+j<z.toList.length:=by simp;omega
  simp only[Array.toList_setIfInBounds,List.length_cons]
  rw[List.drop_set_of_lt (by omega),show off+(j+1)=(off+j)+1 from by omega,List.take_add_one,List.take_set_of_le (by omega),List.getElem?_set_self hlt]
  simp only[Option.toList_some,List.append_assoc,List.singleton_append]
  congr 3
  omega
theorem ki (place:Nat→Option (Nat×Nat)) (z:List Value) (i:Nat) (v:Value) (r:List (Nat×Value)) (off size:Nat) (hp:place i=some (off,size)) (hs:v.cells.toList.length=size)
 (hb:off+v.cells.toList.length≤z.length) :
 Instr.fill place ⟨z⟩ ((i,v)::r)=Instr.fill place ⟨z.take off++v.cells.toList++z.drop (off+v.cells.toList.length)⟩ r:=by
 have hs':v.cells.size=size:=by simpa using hs
 have hb':off+v.cells.size≤z.length:=by simpa using hb
 simp only[Instr.fill,hp]
 rw[if_neg (by simp[hs'];omega)]
 congr 1
 apply Array.toList_inj.1
 rw[← Array.foldl_toList,Array.toList_zipIdx]
 have:=nU off v.cells.toList 0 ⟨z⟩ (by simpa using hb')
 simpa using this
theorem ko {P:Program} {ti:TI} {fs:Array Field} (ho:ti.offs=fs.toList.map fun f=>(f.offset,P.cellsOf f.type,((P.underlying f.type).map fun d=>(cX d).agg).getD false))
 {places:Array (Nat×Nat)} (hp:places.toList=fs.toList.map fun f=>(f.offset,P.cellsOf f.type)) :
 ∀ {ps:List (Nat×Value)} {z:List Value} {K:List Value→Prop},ej (cJ ti) ps z K→∃ z',Instr.fill (places[·]?) ⟨z⟩ ps=some ⟨z'⟩∧K z'
 | [],z,K,h=>⟨z,rfl,h⟩
 | (i,v)::r,z,K,h=>by
  simp only[ej] at h
  have h:=eF h
  unfold cJ at h
  obtain⟨hn,h⟩:=bg (0,0,false) h
  obtain⟨fd,hf,hm,hnth⟩:=mv ho hn
  rw[hnth] at h
  obtain⟨hlen,h⟩:=gy h
  obtain⟨hov,h⟩:=dT h
  obtain⟨z',h1,h2⟩:=ko ho hp h
  refine⟨z',?_,h2⟩
  have hpl:places[i]? = some (fd.offset,P.cellsOf fd.type):=by
   rw[← Array.getElem?_toList,hp,List.getElem?_map,Array.getElem?_toList,hf]
   rfl
  rw[ki _ _ _ _ _ _ _ hpl hlen hov]
  exact h1
theorem f_ {P:Program} (w:World) : ∀ (l:List Field),(∀ f∈l,(P.info? f.type).isSome=true)→
 (l.mapM fun f=>(do pure (f.offset,← sizeOf f.type):Sem (Nat×Nat))).run P w = .ok (l.map fun f=>(f.offset,P.cellsOf f.type)) w
 | [],_=>rfl
 | f::l,h=>by
  obtain⟨i,hi⟩:=Option.isSome_iff_exists.1 (h f (List.mem_cons_self ..))
  have hc:P.cellsOf f.type=i.size:=by simp[Program.cellsOf,hi]
  rw[List.mapM_cons]
  rw[ai (a:=(f.offset,i.size)) (w':=w) (by rw[ai (run_sizeOf hi w)];rfl)]
  rw[ai (f_ w l (fun g hg=>h g (List.mem_cons_of_mem _ hg)))]
  simp only[List.map_cons,hc]
  rfl
theorem run_build {P:Program} {t:TypeId} {ti:TI} (hti:gg P t=some ti) (hk:ti.k = .struct) {ps:List (Nat×Value)} {K:List Value→Prop}
 (h:ej (cJ ti) ps ti.zero K) : ∃ z,(∀ w,(Instr.build t ⟨ps⟩).run P w = .ok (.agg ⟨z⟩) w)∧K z:=by
 obtain⟨i,d,z,h1,h2,h3,h4,h5,h6,-,h7⟩:=aD hti
 rw[h4] at hk
 obtain⟨fs,rfl⟩:=jO hk
 obtain⟨hall,ho⟩:=h7 fs rfl
 obtain⟨z',hz1,hz2⟩:=ko ho (places:=⟨fs.toList.map fun f=>(f.offset,P.cellsOf f.type)⟩) rfl h
 refine⟨z',fun w=>?_,hz2⟩
 unfold Instr.build
 rw[ai (dH h1 h3 w),ai (aC h2 w)]
 simp only
 have hm:(fs.mapM fun f=>(do pure (f.offset,← sizeOf f.type):Sem (Nat×Nat))).run P w = .ok ⟨fs.toList.map fun f=>(f.offset,P.cellsOf f.type)⟩ w:=by
  rw[Array.mapM_eq_mapM_toList]
  show(List.toArray <$> _:Sem (Array (Nat×Nat))).run P w=_
  rw[← bind_pure_comp,ai (f_ w fs.toList (fun f hf=>(hall f (Array.mem_toList_iff.1 hf)).1))]
  rfl
 rw[ai hm]
 have he:z.cells=⟨ti.zero⟩:=by rw[h6]
 simp only[he,hz1]
 rfl
theorem kK {n s:Nat} : ∀ {ps:List (Nat×Value)} {z:List Value} {K:List Value→Prop},ej (gL n s) ps z K→∃ z',Instr.fill (fun i=>some (i*s,s)) ⟨z⟩ ps=some ⟨z'⟩∧K z'
 | [],z,K,h=>⟨z,rfl,h⟩
 | (i,v)::r,z,K,h=>by
  simp only[ej] at h
  have h:=eF h
  unfold gL at h
  split at h
  · obtain⟨hlen,h⟩:=gy h
    obtain⟨hov,h⟩:=dT h
    obtain⟨z',h1,h2⟩:=kK h
    refine⟨z',?_,h2⟩
    rw[ki (fun i=>some (i*s,s)) _ _ _ _ _ _ rfl hlen hov]
    exact h1
  · exact h.elim
theorem sh {P:Program} {t:TypeId} {ti te:TI} {n:Nat} {e:TypeId} (hti:gg P t=some ti) (hk:ti.k = .arr n e) (hte:gg P e=some te) {ps:List (Nat×Value)} {K:List Value→Prop}
 (h:ej (gL n te.size) ps ti.zero K) : ∃ z,(∀ w,(Instr.build t ⟨ps⟩).run P w = .ok (.agg ⟨z⟩) w)∧K z:=by
 obtain⟨i,d,z,h1,h2,h3,h4,h5,h6,-,h7⟩:=aD hti
 obtain⟨i2,d2,z2,q1,q2,q3,q4,q5,q6,q7,q8⟩:=aD hte
 rw[h4] at hk
 obtain rfl:=u9 hk
 obtain⟨z',hz1,hz2⟩:=kK h
 refine⟨z',fun w=>?_,hz2⟩
 unfold Instr.build
 rw[ai (dH h1 h3 w),ai (aC h2 w)]
 simp only
 have he:z.cells=⟨ti.zero⟩:=by rw[h6]
 rw[ai (run_sizeOf q1 w),← q5]
 simp only[he,hz1]
 rfl
section
variable {P:Program} {aT:dy} {bs:List (Nat×Nat)} {tm:List SV} {a:Array Value} {as:List Nat} {c pol:Bool} {cs:List (List Value)}
theorem pE {t:TypeId} {ti:TI} (hti:gg P t=some ti) {x:SV} {u:Value} (hx:cK bs x u) {K:SV→Prop} {E:Prop} (h:sZ ti x K E) (ty:TypeId) :
 E∨∃ r s,(∀ w,(Builtin.len_ #[t] ty #[u]).run P w = .ok r w)∧cK bs s r∧K s:=by
 obtain⟨i,d,z,h1,h2,h3,h4,h5,-,-,-⟩:=aD hti
 unfold sZ at h
 rw[h4] at h
 split at h
 · rename_i e _ n _ hk
   cases hx
   cases d<;>simp[cX] at hk
   refine .inr ⟨_,.v _,fun w=>?_,rfl,h⟩
   simp only[Builtin.len_]
   simp only[show(#[t]:Array TypeId)[0]? = some t from rfl,show ∀ v:Value,(#[v]:Array Value)[0]? = some v from fun _=>rfl]
   rw[ai (aC h2 w)]
   rfl
 · rename_i s hk
   cases hx
   cases d<;>simp[cX] at hk
   refine .inr ⟨_,.v _,fun w=>?_,rfl,h⟩
   simp only[Builtin.len_]
   simp only[show(#[t]:Array TypeId)[0]? = some t from rfl,show ∀ v:Value,(#[v]:Array Value)[0]? = some v from fun _=>rfl]
   rw[ai (aC h2 w)]
   rfl
 · rename_i n e hk
   cases d<;>simp[cX] at hk
   obtain⟨rfl,rfl⟩:=hk
   refine .inr ⟨_,.v _,fun w=>?_,rfl,h⟩
   simp only[Builtin.len_]
   simp only[show(#[t]:Array TypeId)[0]? = some t from rfl,show ∀ v:Value,(#[v]:Array Value)[0]? = some v from fun _=>rfl]
   rw[ai (aC h2 w)]
   rfl
 · exact .inl h
theorem run_convert_int {s d:TypeId} {ts td:TI} (hs:gg P s=some ts) (hd:gg P d=some td) {k k0:IntKind} (hk:td.k = .int k) (n:Int) :
 ∀ w,(convert s d (.int k0 n)).run P w = .ok (.int k (k.wrap n)) w:=by
 intro w
 obtain⟨i,d1,z,h1,h2,h3,h4,h5,-,-,-⟩:=aD hs
 obtain⟨i',d2,z',g1,g2,g3,g4,g5,-,-,-⟩:=aD hd
 rw[g4] at hk
 cases d2<;>simp[cX] at hk
 subst hk
 unfold convert
 rw[ai (aC h2 w),ai (aC g2 w)]
 cases d1<;>rfl
theorem dr {α β:Type} (f:α→β) (l:List α):(⟨l⟩:Array α).map f=⟨l.map f⟩:=by simp
theorem gF (hT:bt P aT) (hf:aY bs tm a) (hg:uN c pol as tm) {o:Oper} {K:SV→Prop} {E:Prop} (h:ma aT as o.op tm bs cs K E) :
 E∨∃ v s,(∀ w,((∃ t x,o.op = .load t x)→bZ w bs cs)→(execOp (Act.eval ⟨a,[]⟩) o).run P w = .ok (.value v) w)∧cK bs s v∧K s:=by
 obtain⟨dst,op,ty,pos,after,guard⟩:=o
 simp only at h
 unfold ma at h
 split at h
 · rename_i x
   obtain⟨s,hs,h⟩:=bw hf hg h
   exact .inr ⟨_,s,fun _ _=>rfl,hs,h⟩
 · rename_i x
   obtain⟨s,hs,h⟩:=bw hf hg h
   exact .inr ⟨_,s,fun _ _=>rfl,hs,h⟩
 · rename_i x y z
   obtain⟨sc,hsc,h⟩:=bw hf hg h
   split at h
   · rename_i c'
     obtain⟨sa,hsa,h⟩:=bw hf hg h
     obtain⟨sb,hsb,h⟩:=bw hf hg h
     obtain⟨s,hs,h⟩:=qL hsa hsb h
     refine .inr ⟨_,s,fun w _=>?_,hs,h⟩
     simp only[execOp]
     have hsc':Act.eval ⟨a,[]⟩ x = .bool c':=hsc
     rw[hsc']
     rfl
   · exact .inl h
 · rename_i t x
   obtain⟨sx,hsx,h⟩:=bw hf hg h
   split at h
   · rename_i i o
     split at h
     · rename_i ti hl
       obtain⟨hsx,_⟩:=hsx
       obtain⟨v,h1,h2⟩:=kM (bs:=bs) (hT _ _ hl) h
       refine .inr ⟨v,.v v,fun w hb=>?_,rfl,h2⟩
       simp only[execOp]
       rw[hsx]
       exact bA (h1 w (hb ⟨_,_,rfl⟩))
     · exact .inl h
   · exact .inl h
 · rename_i x
   obtain⟨sx,hsx,h⟩:=bw hf hg h
   split at h
   · rename_i i o
     refine .inr ⟨_,.p i o,fun w hb=>?_,hsx,h⟩
     obtain⟨hsx,_⟩:=hsx
     simp only[execOp]
     rw[hsx]
     rfl
   · rename_i ad
     refine .inr ⟨_,.v _,fun w hb=>?_,rfl,h⟩
     have hsx':Act.eval ⟨a,[]⟩ x = .pointer (some ad):=hsx
     simp only[execOp]
     rw[hsx']
     rfl
   · rename_i f u v
     refine .inr ⟨_,.v _,fun w hb=>?_,rfl,h⟩
     have hsx':Act.eval ⟨a,[]⟩ x = .func (.func f) u v:=hsx
     simp only[execOp]
     rw[hsx']
     rfl
   · exact .inl h
 · rename_i t x k' n t'
   obtain⟨sx,hsx,h⟩:=bw hf hg h
   split at h
   · rename_i k u
     split at h
     · rename_i hk
       refine .inr ⟨_,.v _,fun w hb=>?_,rfl,h⟩
       have hsx':Act.eval ⟨a,[]⟩ x = .int k u:=hsx
       have hk':=gU hk
       subst hk'
       have hy':Act.eval ⟨a,[]⟩ (.const (.int k (.ofNat (n+1)))) = .int k (.ofNat (n+1)):=rfl
       simp only[execOp,hsx',hy']
       refine bA ?_
       rw[ai (dZ _ t _ _ _ _ _ _ w)]
       have hne:(Int.ofNat (n+1))≠0:=by simp;omega
       simp only[binOp,Op.intDiv,hne,ne_eq,not_true,if_false]
       rfl
     · exact .inl h
   · exact .inl h
 · rename_i t x k' n t'
   obtain⟨sx,hsx,h⟩:=bw hf hg h
   split at h
   · rename_i k u
     split at h
     · rename_i hk
       refine .inr ⟨_,.v _,fun w hb=>?_,rfl,h⟩
       have hsx':Act.eval ⟨a,[]⟩ x = .int k u:=hsx
       have hk':=gU hk
       subst hk'
       have hy':Act.eval ⟨a,[]⟩ (.const (.int k (.ofNat (n+1)))) = .int k (.ofNat (n+1)):=rfl
       simp only[execOp,hsx',hy']
       refine bA ?_
       rw[ai (dZ _ t _ _ _ _ _ _ w)]
       have hne:(Int.ofNat (n+1))≠0:=by simp;omega
       simp only[binOp,Op.intDiv,hne,ne_eq,not_true,if_false]
       rfl
     · exact .inl h
   · exact .inl h
 · rename_i op t x y t' _ _
   obtain⟨sx,hsx,h⟩:=bw hf hg h
   obtain⟨sy,hsy,h⟩:=bw hf hg h
   rcases sE hT hsx hsy (X:=x) (Y:=y) h with h | ⟨r,s,h1,h2,h3⟩
   · exact .inl h
   · exact .inr ⟨r,s,fun w _=>bA (h1 w),h2,h3⟩
 · rename_i op t x
   obtain⟨sx,hsx,h⟩:=bw hf hg h
   rcases tS (P:=P) hsx h with h | ⟨r,s,h1,h2,h3⟩
   · exact .inl h
   · exact .inr ⟨r,s,fun w _=>bA (h1 w),h2,h3⟩
 · rename_i src dst x
   obtain⟨sx,hsx,h⟩:=bw hf hg h
   split at h
   · rename_i k0 n
     split at h
     · rename_i ts td hls hld
       split at h
       · rename_i k hk
         refine .inr ⟨_,.v _,fun w hb=>?_,rfl,h⟩
         have hsx':Act.eval ⟨a,[]⟩ x = .int k0 n:=hsx
         simp only[execOp]
         rw[hsx']
         exact bA (run_convert_int (hT _ _ hls) (hT _ _ hld) hk n w)
       · exact .inl h
     · exact .inl h
   · exact .inl h
 · rename_i t x i
   obtain⟨sx,hsx,h⟩:=bw hf hg h
   split at h
   · obtain⟨si,hsi,h⟩:=bw hf hg h
     split at h
     · rename_i ti hl
       rcases jQ hT (hT _ _ hl) hsx hsi h with h | ⟨r,s,h1,h2,h3⟩
       · exact .inl h
       · exact .inr ⟨r,s,fun w _=>bA (h1 w),h2,h3⟩
     · exact .inl h
   · exact .inl h
 · rename_i st x f
   obtain⟨sx,hsx,h⟩:=bw hf hg h
   split at h
   · rename_i ti hl
     rcases jH (hT _ _ hl) hsx h with h | ⟨r,s,h1,h2,h3⟩
     · exact .inl h
     · exact .inr ⟨r,s,fun w _=>bA (h1 w),h2,h3⟩
   · exact .inl h
 · rename_i st x f
   obtain⟨sx,hsx,h⟩:=bw hf hg h
   split at h
   · rename_i ti hl
     rcases ot (hT _ _ hl) hsx h with h | ⟨r,s,h1,h2,h3⟩
     · exact .inl h
     · exact .inr ⟨r,s,fun w _=>bA (h1 w),h2,h3⟩
   · exact .inl h
 · rename_i x i
   obtain⟨sx,hsx,h⟩:=bw hf hg h
   split at h
   · rename_i l
     obtain⟨hi,h⟩:=bg (.tuple #[]) h
     refine .inr ⟨_,.v _,fun w hb=>?_,rfl,h⟩
     have hsx':Act.eval ⟨a,[]⟩ x = .tuple ⟨l⟩:=hsx
     simp only[execOp]
     rw[hsx']
     refine bA ?_
     have:(⟨l⟩:Array Value)[i]? = some (nth (.tuple #[]) l i):=by
      rw[bq,List.getElem?_toArray,List.getElem?_eq_getElem hi];rfl
     simp only[Instr.extract,this]
     rfl
   · exact .inl h
 · rename_i fn first cap
   have h:=dv hf hg h
   have h:=dv hf hg h
   refine .inr ⟨_,.v _,fun w hb=>?_,rfl,h⟩
   simp only[execOp,dr]
   exact bA rfl
 · rename_i t ps
   split at h
   · rename_i ti hl
     split at h
     · rename_i hk
       split at h
       · exact .inl h
       have h:=dO hf hg h
       obtain⟨z,h1,h2⟩:=run_build (hT _ _ hl) hk h
       refine .inr ⟨_,.v _,fun w _=>?_,rfl,h2⟩
       simp only[execOp,dr]
       exact bA (h1 w)
     · rename_i n e hk
       split at h
       · rename_i te hle
         have h:=dO hf hg h
         obtain⟨z,h1,h2⟩:=sh (hT _ _ hl) hk (hT _ _ hle) h
         refine .inr ⟨_,.v _,fun w _=>?_,rfl,h2⟩
         simp only[execOp,dr]
         exact bA (h1 w)
       · exact .inl h
     · exact .inl h
   · exact .inl h
 · rename_i x t
   obtain⟨sx,hsx,h⟩:=bw hf hg h
   split at h
   · rename_i ti hl
     rcases pE (hT _ _ hl) hsx h ty with h | ⟨r,s,h1,h2,h3⟩
     · exact .inl h
     · refine .inr ⟨r,s,fun w _=>?_,h2,h3⟩
       have e:(⟨[x]⟩:Array Operand).map (Act.eval ⟨a,[]⟩) = #[Act.eval ⟨a,[]⟩ x]:=by simp
       simp only[execOp,resolve]
       rw[ai (run_pure P _ w)]
       simp only[invoke,builtin,e]
       exact bA (h1 w)
   · exact .inl h
 · rename_i x y t1 t2
   obtain⟨sx,hsx,h⟩:=bw hf hg h
   obtain⟨sy,hsy,h⟩:=bw hf hg h
   split at h
   · split at h
     · rename_i hk
       have hk':=gU hk
       subst hk'
       refine .inr ⟨_,.v _,fun w _=>?_,rfl,h⟩
       have e:(⟨[x,y]⟩:Array Operand).map (Act.eval ⟨a,[]⟩) = #[Act.eval ⟨a,[]⟩ x,Act.eval ⟨a,[]⟩ y]:=by simp
       simp only[execOp,resolve]
       rw[ai (run_pure P _ w)]
       simp only[invoke,builtin,e]
       have e1:Act.eval ⟨a,[]⟩ x=_:=hsx
       have e2:Act.eval ⟨a,[]⟩ y=_:=hsy
       rw[e1,e2]
       exact bA rfl
     · exact .inl h
   · exact .inl h
 · exact .inl h
end
end Go.Sx
namespace Go.Sx
set_option linter.unusedVariables false
theorem mH {P:Program} {w:World} {a:Addr} {u v:Value} (h:w.cell? a=some u) (hf:w.frozen? a=false) (ho:aW v=true):(store a v).run P w = .ok () (w.setCell a v):=by
 cases v<;>simp_all [store,Sem.run,aW]
theorem dI {P:Program} {b o:Nat} : ∀ (l:List Value) (i:Nat) (w:World) (arr:Array Value) (e:TypeId),w.heap[b]? = some (.cells arr e (0,0))→(∀ v∈l,aW v=true)→
 o+i+l.length≤arr.size→∃ w',(storeCells ⟨b,o,none⟩ l i).run P w = .ok () w'∧w'.os=w.os∧w'.tape=w.tape∧w'.output=w.output∧w'.heap.size=w.heap.size∧
  (∀ k,k≠b→w'.heap[k]? = w.heap[k]?)∧∃ arr',w'.heap[b]? = some (.cells arr' e (0,0))∧arr'.size=arr.size∧
  ∀ j,arr'[j]? = if o+i≤j∧j<o+i+l.length then l[j - (o+i)]? else arr[j]?
 | [],i,w,arr,e,h,_,_=>⟨w,rfl,rfl,rfl,rfl,rfl,fun _ _=>rfl,arr,h,rfl,fun j=>by rw[if_neg (by simp only[List.length_nil];omega)]⟩
 | v::l,i,w,arr,e,h,ho,hs=>by
  simp only[List.length_cons] at hs
  obtain⟨u,hu⟩:=mU (a:=arr) (i:=o+i) (by omega)
  have hc:w.cell? ⟨b,o+i,none⟩=some u:=by simp[World.cell?,h,hu]
  have hfz:w.frozen? ⟨b,o+i,none⟩=false:=by simp[World.frozen?,h]
  have h1:(w.setCell ⟨b,o+i,none⟩ v).heap[b]? = some (.cells (arr.setIfInBounds (o+i) v) e (0,0)):=by
   simp[World.setCell,Array.getElem?_modify,h]
  obtain⟨w',g1,g2,g3,g4,g5,g6,arr',g7,g8,g9⟩:=dI (P:=P) (b:=b) (o:=o) l (i+1) (w.setCell ⟨b,o+i,none⟩ v) (arr.setIfInBounds (o+i) v) e h1 (fun x hx=>ho x (List.mem_cons_of_mem _ hx)) (by simp;omega)
  refine⟨w',?_,g2,g3,g4,?_,?_,arr',g7,?_,?_⟩
  · unfold storeCells
    rw[Addr.bG,ai (mH hc hfz (ho v (List.mem_cons_self ..)))]
    exact g1
  · rw[g5];simp[World.setCell]
  · intro k hk
    rw[g6 k hk]
    simp[World.setCell,Array.getElem?_modify,Ne.symm hk]
  · rw[g8];simp
  · intro j
    rw[g9 j]
    by_cases hj:o+i=j
    · subst hj
      rw[if_neg (by omega),if_pos ⟨by omega,by simp⟩,Array.getElem?_setIfInBounds_self_of_lt (by omega)]
      simp
    · rw[Array.getElem?_setIfInBounds_ne hj]
      by_cases hin:o+(i+1)≤j∧j<o+(i+1)+l.length
      · rw[if_pos hin,if_pos ⟨by omega,by simp;omega⟩]
        rw[show j - (o+i)=(j - (o+(i+1)))+1 from by omega]
        simp
      · rw[if_neg hin,if_neg (by simp;omega)]
theorem oJ {P:Program} {w:World} {t:TypeId} {ti:TI} (hti:gg P t=some ti) {b o:Nat} {c:List Value} (hr:Range w b o c) {v:Value} (hlen:v.cells.toList.length=ti.size)
 (hone : ∀ u∈v.cells.toList,aW u=true) {s:Nat} (hs:s+v.cells.toList.length≤c.length) :
 ∃ w',(Instr.storeAt t (.pointer (some ⟨b,o+s,none⟩)) v).run P w = .ok () w'∧cQ (fun k i=>k=b∧o≤i∧i<o+c.length) w w'∧
  Range w' b o (c.take s++v.cells.toList++c.drop (s+v.cells.toList.length)):=by
 obtain⟨i,d,z,h1,h2,h3,h4,h5,-,-,-⟩:=aD hti
 obtain⟨arr,e,ha,hc⟩:=hr
 have hsz:v.cells.toList.length≠0→o+s+v.cells.toList.length≤arr.size:=fun hne=>by
  have:=hc (s+v.cells.toList.length - 1) (by omega)
  rw[List.getElem?_eq_getElem (by omega)] at this
  have:=bu this
  omega
 have hgo : ∃ w',(storeCells ⟨b,o+s,none⟩ v.cells.toList 0).run P w = .ok () w'∧w'.os=w.os∧w'.tape=w.tape∧w'.output=w.output∧w'.heap.size=w.heap.size∧
  (∀ k,k≠b→w'.heap[k]? = w.heap[k]?)∧∃ arr',w'.heap[b]? = some (.cells arr' e (0,0))∧arr'.size=arr.size∧
  ∀ j,arr'[j]? = if o+s≤j∧j<o+s+v.cells.toList.length then v.cells.toList[j - (o+s)]? else arr[j]?:=by
  by_cases hne:v.cells.toList.length=0
  · have:v.cells.toList = []:=List.eq_nil_of_length_eq_zero hne
    rw[this]
    exact⟨w,rfl,rfl,rfl,rfl,rfl,fun _ _=>rfl,arr,ha,rfl,fun j=>by rw[if_neg (by simp only[List.length_nil];omega)]⟩
  · exact dI _ 0 w arr e ha hone (hsz hne)
 obtain⟨w',g1,g2,g3,g4,g5,g6,arr',g7,g8,g9⟩:=hgo
 refine⟨w',?_,⟨g2,g3,g4,by omega,fun k ob hob=>?_⟩,arr',e,g7,fun j hj=>?_⟩
 · show(storeVar t ⟨b,o+s,none⟩ v).run P w=_
   unfold storeVar
   rw[ai (run_sizeOf h1 w)]
   have : ¬ v.cells.size≠i.size:=by
    have:v.cells.toList.length=v.cells.size:=by simp
    omega
   rw[if_neg this]
   exact g1
 · by_cases hk:k=b
   · subst hk
     rw[ha] at hob
     cases hob
     refine⟨_,g7,.inr (.inl ⟨arr,arr',e,(0,0),rfl,rfl,g8,fun j hj=>?_⟩)⟩
     rw[g9 j,if_neg]
     intro hin
     exact hj ⟨rfl,by omega,by omega⟩
   · exact⟨ob,by rw[g6 k hk,hob],.refl _ _⟩
 · rw[g9]
   simp only[List.length_append,List.length_take,List.length_drop] at hj
   have hmin:min s c.length=s:=by omega
   by_cases hin:s≤j∧j<s+v.cells.toList.length
   · rw[if_pos (by omega)]
     rw[List.append_assoc,List.getElem?_append_right (by simp only[List.length_take];omega),List.getElem?_append_left (by simp only[List.length_take];omega)]
     simp only[List.length_take,hmin]
     congr 1
     omega
   · rw[if_neg (by omega),hc j (by omega)]
     by_cases hlt:j<s
     · rw[List.append_assoc,List.getElem?_append_left (by simp only[List.length_take];omega),List.getElem?_take,if_pos hlt]
     · rw[List.getElem?_append_right (by simp only[List.length_take,List.length_append];omega),List.getElem?_drop]
       congr 1
       simp only[List.length_take,List.length_append]
       omega
theorem ml {α:Type} : ∀ {l:List α} {n:Nat} {K:Nat→Prop},rW l n K→K (n+l.length)
 | [],n,K,h=>h
 | _::xs,n,K,h=>by
  have:=ml (l:=xs) h
  rw[List.length_cons,show n+(xs.length+1)=n+1+xs.length from by omega]
  exact this
section
variable {P:Program} {aT:dy} {w0:World} {R:Nat→Nat→Prop} {av:Nat→Prop} {bs:List (Nat×Nat)} {tm:List SV} {a:Array Value} {cs:List (List Value)} {D:Fx} {w:World} {K:KT}
theorem ec {o:Oper} {act:Act} {w':World} {v:Value} {next:Act→World→Prop} {Q:Exit→Act→World→Prop}
 (h:(execOp act.eval o).run P w = .ok (.value v) w') (hn:next (act.put o.dst v) w'):o.wp P act w next Q:=by
 unfold Oper.wp
 rw[h]
 exact hn
theorem mJ {o:Oper} {act:Act} {w':World} {next:Act→World→Prop} {Q:Exit→Act→World→Prop}
 (h:(execOp act.eval o).run P w = .ok .skip w') (hn:next (act.put o.dst undef) w'):o.wp P act w next Q:=by
 unfold Oper.wp
 rw[h]
 exact hn
theorem put_defers (act:Act) (d:Option Tmp) (v:Value):(act.put d v).defers=act.defers:=by cases d<;>rfl
theorem eK (hf:aY bs tm a) {dst:Option Tmp} {s:SV} {y:Value} (hs:cK bs s y) {w':World} (hst:St w0 R av w' bs cs D)
 (hk:fin dst tm s fun tm'=>K tm' bs cs D):ft w0 R av K (Act.put ⟨a,[]⟩ dst y) w':=by
 obtain⟨tm',h1,h2⟩:=hf.put dst hs hk
 exact⟨put_defers _ _ _,tm',bs,cs,D,h1,hst,h2⟩
theorem ar.sound {m:Sem Value} {o:Oper} (hm:execOp (Act.eval ⟨a,[]⟩) o=(do pure (.value (← m)))) (hf:aY bs tm a) (hst:St w0 R av w bs cs D)
 (h:ar P w0 R av m bs cs D fun v bs cs D=>fin o.dst tm (.v v) fun tm'=>K tm' bs cs D) (Q:Exit→Act→World→Prop):o.wp P ⟨a,[]⟩ w (ft w0 R av K) Q:=by
 obtain⟨v,w',ext,cs',D',h1,h2,h3⟩:=cr.1 h w hst
 exact ec (by rw[hm];exact bA h1) (eK (s:=.v _) hf.mono rfl h2 h3)
theorem aM.sound {m:Sem Unit} {o:Oper} (hm:execOp (Act.eval ⟨a,[]⟩) o=(do m;pure .skip)) (hf:aY bs tm a) (hst:St w0 R av w bs cs D)
 (h:aM P w0 R av m bs cs D fun bs cs D=>fin o.dst tm (.v undef) fun tm'=>K tm' bs cs D) (Q:Exit→Act→World→Prop):o.wp P ⟨a,[]⟩ w (ft w0 R av K) Q:=by
 obtain⟨w',ext,cs',D',h1,h2,h3⟩:=dR.1 h w hst
 exact mJ (by rw[hm];exact qb h1) (eK (s:=.v _) hf.mono rfl h2 h3)
theorem n8 {f:FuncId} (h:fB P f) (args:Array Value) (w:World):(callFunc f args).run P w = .ok (.enter f args) w:=by
 obtain⟨fn,h1,h2,h3⟩:=h
 unfold callFunc
 rw[ai (m:=program) (a:=P) (w':=w) rfl]
 simp only[h1,h3]
 have:fn.body.isNone=false:=by simpa using h2
 simp only[this]
 rfl
theorem aw.sound {f:FuncId} {vs:List Value} {o:Oper} (hm:execOp (Act.eval ⟨a,[]⟩) o=callFunc f vs.toArray) (hf:aY bs tm a) (hst:St w0 R av w bs cs D)
 (h:aw P w0 R av f vs bs cs D fun v bs cs D=>fin o.dst tm (.v v) fun tm'=>K tm' bs cs D) (Q:Exit→Act→World→Prop):o.wp P ⟨a,[]⟩ w (ft w0 R av K) Q:=by
 obtain⟨hc,h⟩:=ct.1 h
 unfold Oper.wp
 rw[hm,n8 hc,Oper.upon_enter]
 refine(h w hst).mono ?_
 rintro e w' ⟨v,ext,cs',D',rfl,h2,h3⟩
 exact eK (s:=.v _) hf.mono rfl h2 h3
theorem mC {o:Oper} {c:List Value} {e:TypeId} {v:Value} (hv:v.cells=⟨c⟩) (hm:(execOp (Act.eval ⟨a,[]⟩) o).run P w=((do pure (Next.value (.pointer (some (← newVar e v))))):Sem Next).run P w)
 (hf:aY bs tm a) (hst:St w0 R av w bs cs D) (h:vg o.dst c tm bs cs D K) (Q:Exit→Act→World→Prop):o.wp P ⟨a,[]⟩ w (ft w0 R av K) Q:=by
 have h:=ml h w.heap.size
 have h:=jX h
 have h:=jX h
 refine ec (w':={ w with heap:=w.heap.push (.cells c.toArray e) }) (v:=.pointer (some ⟨w.heap.size,0,none⟩)) ?_ ?_
 · rw[hm]
   unfold newVar newRow
   rw[hv]
   rfl
 · refine eK hf.mono (s:=.p (0+bs.length) 0) ⟨?_,by simp⟩ (hst.new c e) h
   unfold ptr
   rw[bq]
   simp
theorem eo (ρ:Operand→Value) (dst:Option Tmp) (b:Builtin) (xs:List Operand) (ts:Array TypeId) (ty:TypeId) (pos:String) (after:Array Edge) (guard:Option (Nat×Bool)) :
 execOp ρ ⟨dst,.call ⟨.builtin b,⟨xs⟩,ts⟩,ty,pos,after,guard⟩=builtin b ts ty ((⟨xs⟩:Array Operand).map fun | .const _=>true | _=>false) ⟨xs.map ρ⟩:=by
 simp only[execOp,resolve,invoke,dr]
 rfl
theorem fD (ρ:Operand→Value) (dst:Option Tmp) (x:Operand) (f:FuncId) (first cap:List Value) (xs:List Operand) (ts:Array TypeId) (ty:TypeId) (pos:String) (after:Array Edge)
 (guard:Option (Nat×Bool)) (hx:ρ x = .func (.func f) ⟨first⟩ ⟨cap⟩) :
 execOp ρ ⟨dst,.call ⟨.value x,⟨xs⟩,ts⟩,ty,pos,after,guard⟩=callFunc f ⟨first++xs.map ρ++cap⟩:=by
 simp only[execOp,resolve,dr,hx,Deferred.ofValue]
 show callFunc f _=_
 simp
theorem sd (hT:bt P aT) (hf:aY bs tm a) (hst:St w0 R av w bs cs D) {o:Oper} (h:yr P aT w0 R av o tm bs cs D K) (Q:Exit→Act→World→Prop) :
 o.wp P ⟨a,[]⟩ w (ft w0 R av K) Q:=by
 obtain⟨dst,op,ty,pos,after,guard⟩:=o
 have hg:=uN.nil tm
 unfold yr at h
 simp only at h
 split at h
 · rename_i e
   split at h
   · rename_i ti hl
     split at h
     · exact ar.sound (o:=⟨dst,.alloc e,ty,pos,after,guard⟩) rfl hf hst h Q
     obtain⟨i,d,z,h1,h2,h3,h4,h5,h6,-,-⟩:=aD (hT _ _ hl)
     refine mC (o:=⟨dst,.alloc e,ty,pos,after,guard⟩) (v:=z) (e:=e) (by rw[h6]) ?_ hf hst h Q
     simp only[execOp,Instr.alloc]
     rw[run_bind,ai (dH h1 h3 w)]
     rfl
   · exact gH.1 h a w Q hf hst
 · rename_i e x
   split at h
   · exact ar.sound (o:=⟨dst,.box e x,ty,pos,after,guard⟩) rfl hf hst (a_ hf hg h) Q
   have h:=a_ hf hg h
   have h:=eF h
   exact mC (o:=⟨dst,.box e x,ty,pos,after,guard⟩) (v:=Act.eval ⟨a,[]⟩ x) (e:=e) rfl rfl hf hst h Q
 · rename_i t ad x
   obtain⟨sa,hsa,h⟩:=bw hf hg h
   split at h
   · rename_i i s
     split at h
     · rename_i ti hl
       have h:=a_ hf hg h
       have h:=eF h
       obtain⟨hone,h⟩:=nO h
       obtain⟨hlen,h⟩:=gy h
       obtain⟨hi,h⟩:=bg [] h
       obtain⟨hov,h⟩:=dT h
       obtain⟨_,h⟩:=cD h
       obtain⟨hr,hib⟩:=hst.box.get i hi
       obtain⟨hsa,_⟩:=hsa
       obtain⟨w',g1,g2,g3⟩:=oJ (hT _ _ hl) hr hlen hone hov
       refine mJ (w':=w') ?_ (eK (s:=.v _) hf rfl (hst.put i hib _ ?_ g2 g3) h)
       · simp only[execOp]
         rw[hsa]
         exact qb g1
       · simp only[List.length_append,List.length_take,List.length_drop]
         omega
     · exact gH.1 h a w Q hf hst
   · rename_i av'
     have h:=a_ hf hg h
     have hsa':Act.eval ⟨a,[]⟩ ad=av':=hsa
     refine aM.sound (o:=⟨dst,.store t ad x,ty,pos,after,guard⟩) ?_ hf hst h Q
     simp only[execOp,hsa']
   · exact h.elim
 · rename_i t x
   exact ar.sound (o:=⟨dst,.load t x,ty,pos,after,guard⟩) rfl hf hst (a_ hf hg h) Q
 · rename_i t n ps
   refine ar.sound (o:=⟨dst,.buildSlice t n ⟨ps⟩,ty,pos,after,guard⟩) ?_ hf hst (dO hf hg h) Q
   simp only[execOp,dr]
 · rename_i t ps
   refine ar.sound (o:=⟨dst,.build t ⟨ps⟩,ty,pos,after,guard⟩) ?_ hf hst (dO hf hg h) Q
   simp only[execOp,dr]
 · rename_i t x i
   exact ar.sound (o:=⟨dst,.indexAddr t x i,ty,pos,after,guard⟩) rfl hf hst (a_ hf hg (a_ hf hg h)) Q
 · rename_i t x i
   exact ar.sound (o:=⟨dst,.index t x i,ty,pos,after,guard⟩) rfl hf hst (a_ hf hg (a_ hf hg h)) Q
 · rename_i t x lo hi mx
   exact ar.sound (o:=⟨dst,.slice t x lo hi mx,ty,pos,after,guard⟩) rfl hf hst (ev hf hg (ev hf hg (ev hf hg (a_ hf hg h)))) Q
 · rename_i s d x
   exact ar.sound (o:=⟨dst,.convert s d x,ty,pos,after,guard⟩) rfl hf hst (a_ hf hg h) Q
 · rename_i t l c
   exact ar.sound (o:=⟨dst,.makeSlice t l c,ty,pos,after,guard⟩) rfl hf hst (a_ hf hg (a_ hf hg h)) Q
 · rename_i op t x y t'
   exact ar.sound (o:=⟨dst,.binOp op t x y t',ty,pos,after,guard⟩) rfl hf hst (a_ hf hg (a_ hf hg h)) Q
 · rename_i op t x
   exact ar.sound (o:=⟨dst,.unOp op t x,ty,pos,after,guard⟩) rfl hf hst (a_ hf hg h) Q
 · rename_i t
   exact ar.sound (o:=⟨dst,.makeMap t none,ty,pos,after,guard⟩) rfl hf hst h Q
 · rename_i t x i ok
   exact ar.sound (o:=⟨dst,.lookup t x i ok,ty,pos,after,guard⟩) rfl hf hst (a_ hf hg (a_ hf hg h)) Q
 · rename_i t m k x
   exact aM.sound (o:=⟨dst,.mapUpdate t m k x,ty,pos,after,guard⟩) rfl hf hst (a_ hf hg (a_ hf hg (a_ hf hg h))) Q
 · rename_i t x
   exact ar.sound (o:=⟨dst,.range t x,ty,pos,after,guard⟩) rfl hf hst (a_ hf hg h) Q
 · rename_i it s
   exact ar.sound (o:=⟨dst,.next it s,ty,pos,after,guard⟩) rfl hf hst (a_ hf hg h) Q
 · rename_i it
   exact ar.sound (o:=⟨dst,.entry it,ty,pos,after,guard⟩) rfl hf hst (a_ hf hg h) Q
 · rename_i t x
   exact ar.sound (o:=⟨dst,.makeInterface t x,ty,pos,after,guard⟩) rfl hf hst (a_ hf hg h) Q
 · rename_i b xs ts
   have h:=dv hf hg h
   split at h
   · rename_i m hm
     refine ar.sound (o:=⟨dst,.call ⟨.builtin b,⟨xs⟩,ts⟩,ty,pos,after,guard⟩) (m:=m) ?_ hf hst h Q
     rw[eo]
     cases b<;>simp only[xo] at hm<;>first | (cases hm;rfl) | (cases hm)
   · exact gH.1 h a w Q hf hst
 · rename_i x xs ts
   obtain⟨sf,hsf,h⟩:=bw hf hg h
   split at h
   · rename_i f first cap
     have hsf':Act.eval ⟨a,[]⟩ x = .func (.func f) ⟨first⟩ ⟨cap⟩:=hsf
     split at h
     · have h:=dv hf hg h
       refine aw.sound (o:=⟨dst,.call ⟨.value x,⟨xs⟩,ts⟩,ty,pos,after,guard⟩) ?_ hf hst h Q
       rw[fD _ _ _ _ _ _ _ _ _ _ _ _ hsf']
       simp
     · have h:=dv hf hg h
       refine aw.sound (o:=⟨dst,.call ⟨.value x,⟨xs⟩,ts⟩,ty,pos,after,guard⟩) ?_ hf hst h Q
       rw[fD _ _ _ _ _ _ _ _ _ _ _ _ hsf']
   · exact gH.1 h a w Q hf hst
 · exact gH.1 h a w Q hf hst
theorem jY (hT:bt P aT) (hf:aY bs tm a) (hst:St w0 R av w bs cs D) {o:Oper} (h:zi P aT w0 R av o tm bs cs D K) (Q:Exit→Act→World→Prop) :
 o.wp P ⟨a,[]⟩ w (ft w0 R av K) Q:=by
 rcases gF hT hf (uN.nil tm) h with h | ⟨v,s,h1,h2,h3⟩
 · exact sd hT hf hst h Q
 · exact ec (h1 w fun _=>hst.box) (eK hf h2 hst h3)
end
end Go.Sx
namespace Go.Sx
set_option linter.unusedVariables false
section
variable {P:Program} {aT:dy} {w0:World} {R:Nat→Nat→Prop} {av:Nat→Prop}
theorem rK {o:Oper} {j:Nat} {pol:Bool} (h:fc o j pol=true):o.guard=some (j,pol):=by
 unfold fc at h
 split at h
 · rename_i j' pol' hg
   split at h
   · rename_i hb
     rw[hg,Nat.eq_of_beq_eq_true hb]
   · rename_i hb
     rw[hg,Nat.eq_of_beq_eq_true hb]
   · cases h
 · cases h
theorem ew {o:Oper} {j:Nat} {pol:Bool} (hg:o.guard=some (j,pol)) (y:Nat→Option Bool):Region.wanted o y=(y j == some pol):=by
 unfold Region.wanted
 rw[hg]
theorem mM {ops:Array Oper} {j:Nat} {oj:Oper} {t:Nat} (hj:ops[j]? = some oj) (ht:oj.dst=some t) (a:Array Value) :
 yielded ops a j=match a[t]? with | some (.bool b)=>some b | _=>none:=by
 unfold yielded
 simp only[hj,Option.bind_some,ht]
 rfl
theorem iX {a:Array Value} {t:Nat} {x:Value} (ht:t<a.size) (h:a.getD t undef=x):a[t]? = some x:=by
 rw[Array.getElem?_eq_getElem ht]
 simp[ht] at h
 rw[h]
theorem tR {d t:Nat} {as:List Nat} (h:jm (d::as) t=true):d=t∨jm as t=true:=by
 simp only[jm] at h
 split at h
 · rename_i hb
   exact .inl (Nat.eq_of_beq_eq_true hb)
 · exact .inr h
theorem mh {α:Type} (x:α) {l:List α} {d t:Nat} {v:α} (h:d≠t):nth x (l.set d v) t=nth x l t:=by
 rw[bq,bq,List.getElem?_set_ne h]
theorem fI {α:Type} (x:α) {l:List α} {d:Nat} {v:α} (h:d<l.length):nth x (l.set d v) d=v:=by
 rw[bq,List.getElem?_set_self h]
 rfl
theorem dg {tm:List SV} {as:List Nat} {x:Operand} {K:SV→Prop} (h:jy tm as x K) : ∃ s,K s:=by
 cases x with
 | tmp t=>
  obtain⟨_,h⟩:=bg SV.any h
  split at h
  · exact⟨_,h⟩
  · split at h
    · exact⟨_,h⟩
    · exact h.elim
 | const v=>exact⟨_,h⟩
 | global g=>exact⟨_,h⟩
 | func f=>exact⟨_,h⟩
theorem z6 {bs:List (Nat×Nat)} {s:SV} {K:Value→Prop} (h:vK bs s K) : ∃ v,K v:=by
 cases s with
 | v x=>exact⟨_,h⟩
 | p i o=>obtain⟨_,h⟩:=bg (0,0) h;exact⟨_,h⟩
 | g _ _ _=>exact h.elim
 | any=>exact h.elim
theorem yd {tm:List SV} {as:List Nat} {bs:List (Nat×Nat)} {x:Operand} {K:Value→Prop} (h:gb tm as bs x K) : ∃ v,K v:=by
 obtain⟨s,h⟩:=dg h
 exact z6 h
theorem r5 {tm:List SV} {as:List Nat} {bs:List (Nat×Nat)} : ∀ {xs:List Operand} {K:List Value→Prop},oL tm as bs xs K→∃ vs,K vs
 | [],_,h=>⟨_,h⟩
 | x::xs,K,h=>by
  obtain⟨v,h⟩:=yd h
  obtain⟨vs,h⟩:=r5 (xs:=xs) h
  exact⟨_,h⟩
theorem r3 {tm:List SV} {as:List Nat} {bs:List (Nat×Nat)} : ∀ {xs:List (Nat×Operand)} {K:List (Nat×Value)→Prop},qS tm as bs xs K→∃ vs,K vs
 | [],_,h=>⟨_,h⟩
 | (i,x)::xs,K,h=>by
  obtain⟨v,h⟩:=yd h
  obtain⟨vs,h⟩:=r3 (xs:=xs) h
  exact⟨_,h⟩
theorem oR {place:Nat→(Nat→Nat→Prop)→Prop} (hp : ∀ i K,place i K→∃ a b,K a b) : ∀ {ps:List (Nat×Value)} {z:List Value} {K:List Value→Prop},ej place ps z K→∃ z',K z'
 | [],_,_,h=>⟨_,h⟩
 | (i,v)::r,z,K,h=>by
  simp only[ej] at h
  have h:=eF h
  obtain⟨a,b,h⟩:=hp _ _ h
  obtain⟨_,h⟩:=gy h
  obtain⟨_,h⟩:=dT h
  exact oR hp h
theorem xn {as:List Nat} {op:Op} {tm:List SV} {bs:List (Nat×Nat)} {cs:List (List Value)} {K:SV→Prop} {E:Prop} (h:ma aT as op tm bs cs K E):E∨∃ s,K s:=by
 unfold ma at h
 split at h
 · exact .inr (dg h)
 · exact .inr (dg h)
 · obtain⟨s,h⟩:=dg h
   split at h
   · obtain⟨s,h⟩:=dg h
     obtain⟨s,h⟩:=dg h
     unfold tg at h
     split at h
     · exact .inr ⟨_,h⟩
     · exact .inr ⟨_,h.rest⟩
     · exact .inr ⟨_,h.rest⟩
     · rename_i c' _ _ _ _ _ _ _
       unfold bT at h
       split at h
       · exact .inr ⟨_,h⟩
       · exact .inr ⟨_,h⟩
   · exact .inl h
 · obtain⟨s,h⟩:=dg h
   split at h
   · split at h
     · unfold nN at h
       obtain⟨_,h⟩:=bg [] h
       split at h
       · obtain⟨_,h⟩:=ea h;exact .inr ⟨_,h⟩
       · obtain⟨_,h⟩:=bg (.tuple #[]) h;exact .inr ⟨_,h⟩
     · exact .inl h
   · exact .inl h
 · obtain⟨s,h⟩:=dg h
   split at h
   · exact .inr ⟨_,h⟩
   · exact .inr ⟨_,h⟩
   · exact .inr ⟨_,h⟩
   · exact .inl h
 · obtain⟨s,h⟩:=dg h
   split at h
   · split at h
     · exact .inr ⟨_,h⟩
     · exact .inl h
   · exact .inl h
 · obtain⟨s,h⟩:=dg h
   split at h
   · split at h
     · exact .inr ⟨_,h⟩
     · exact .inl h
   · exact .inl h
 · obtain⟨s,h⟩:=dg h
   obtain⟨s',h⟩:=dg h
   unfold wL at h
   split at h
   · split at h
     · unfold ov at h
       split at h
       all_goals first | exact .inr ⟨_,h⟩ | exact .inr ⟨_,h.rest⟩ | exact .inl h
     · exact .inl h
   · split at h
     · exact .inr ⟨_,h⟩
     · exact .inr ⟨_,h⟩
     · exact .inl h
   · exact .inl h
 · obtain⟨s,h⟩:=dg h
   unfold zU at h
   split at h
   · exact .inr ⟨_,h⟩
   · exact .inr ⟨_,h⟩
   · exact .inl h
 · obtain⟨s,h⟩:=dg h
   split at h
   · split at h
     · split at h
       · exact .inr ⟨_,h⟩
       · exact .inl h
     · exact .inl h
   · exact .inl h
 · obtain⟨s,h⟩:=dg h
   split at h
   · obtain⟨s,h⟩:=dg h
     split at h
     · unfold fG at h
       simp only at h
       split at h
       · split at h
         · split at h
           · split at h
             · exact .inr ⟨_,h⟩
             · exact .inl h
           · exact .inl h
         · exact .inl h
       · exact .inl h
     · exact .inl h
   · exact .inl h
 · obtain⟨s,h⟩:=dg h
   split at h
   · unfold fS at h
     split at h
     · obtain⟨_,h⟩:=bg (0,0,false) h
       split at h
       · exact .inl h
       · split at h
         · exact .inr ⟨_,h⟩
         · exact .inr ⟨_,h⟩
         · exact .inl h
     · exact .inl h
   · exact .inl h
 · obtain⟨s,h⟩:=dg h
   split at h
   · unfold oZ at h
     split at h
     · obtain⟨_,h⟩:=bg (0,0,false) h
       split at h
       · obtain⟨_,h⟩:=ea h;exact .inr ⟨_,h⟩
       · obtain⟨_,h⟩:=bg (.tuple #[]) h;exact .inr ⟨_,h⟩
     · exact .inl h
   · exact .inl h
 · obtain⟨s,h⟩:=dg h
   split at h
   · obtain⟨_,h⟩:=bg (.tuple #[]) h;exact .inr ⟨_,h⟩
   · exact .inl h
 · obtain⟨vs,h⟩:=r5 h
   obtain⟨us,h⟩:=r5 h
   exact .inr ⟨_,h⟩
 · split at h
   · split at h
     · split at h
       · exact .inl h
       obtain⟨vs,h⟩:=r3 h
       obtain⟨z,h⟩:=oR (fun i K hk=>by
        unfold cJ at hk
        obtain⟨_,hk⟩:=bg (0,0,false) hk
        exact⟨_,_,hk⟩) h
       exact .inr ⟨_,h⟩
     · split at h
       · obtain⟨vs,h⟩:=r3 h
         obtain⟨z,h⟩:=oR (fun i K hk=>by
          unfold gL at hk
          split at hk
          · exact⟨_,_,hk⟩
          · exact hk.elim) h
         exact .inr ⟨_,h⟩
       · exact .inl h
     · exact .inl h
   · exact .inl h
 · obtain⟨s,h⟩:=dg h
   split at h
   · unfold sZ at h
     split at h
     · exact .inr ⟨_,h⟩
     · exact .inr ⟨_,h⟩
     · exact .inr ⟨_,h⟩
     · exact .inl h
   · exact .inl h
 · obtain⟨s,h⟩:=dg h
   obtain⟨s',h⟩:=dg h
   split at h
   · split at h
     · exact .inr ⟨_,h⟩
     · exact .inl h
   · exact .inl h
 · exact .inl h
end
end Go.Sx
namespace Go.Sx
set_option linter.unusedVariables false
section
variable {P:Program} {aT:dy} {w0:World} {R:Nat→Nat→Prop} {av:Nat→Prop}
def GI (ops:List Oper) (g:Option yo) (tm:List SV) (a:Array Value):Prop:=
 ∀ G,g=some G→(∃ oj,ops[G.j]? = some oj∧oj.dst=some G.t)∧a[G.t]? = some (.bool G.c)∧∀ s,jm G.as s=true→∃ x,nth .any tm s = .g G.c G.pol x
theorem GI.none (ops:List Oper) (tm:List SV) (a:Array Value):GI ops none tm a:=fun G h=>by cases h
theorem ja {ops:Array Oper} {j t:Nat} {oj:Oper} (hj:ops.toList[j]? = some oj) (ht:oj.dst=some t) {a:Array Value} {c:Bool} (ha:a[t]? = some (.bool c)):yielded ops a j=some c:=by
 rw[mM (by rw[← Array.getElem?_toList];exact hj) ht,ha]
theorem nt {ops:Array Oper} {j t:Nat} {oj:Oper} (hj:ops.toList[j]? = some oj) (ht:oj.dst=some t) {a:Array Value} {x:Array Value} (ha:a[t]? = some (.tuple x)):yielded ops a j=none:=by
 rw[mM (by rw[← Array.getElem?_toList];exact hj) ht,ha]
theorem iL {ops:Array Oper} {Q:Exit→Act→World→Prop} {k:Nat} {rest:List Nat} {o:Oper} {act:Act} {w:World} (ho:ops[k]? = some o)
 (hw:Region.wanted o (yielded ops act.tmps)=true) (h:o.wp P act w (wpOps P ops Q rest) Q):wpOps P ops Q (k::rest) act w:=by
 simp only[wpOps,ho,hw,if_true]
 exact .inl h
theorem mR {ops:Array Oper} {Q:Exit→Act→World→Prop} {k:Nat} {rest:List Nat} {o:Oper} {act:Act} {w:World} (ho:ops[k]? = some o)
 (hw:Region.wanted o (yielded ops act.tmps)=false) (h:wpOps P ops Q rest (act.put o.dst undef) w):wpOps P ops Q (k::rest) act w:=by
 simp only[wpOps,ho,hw,Bool.false_eq_true,if_false]
 exact h
theorem aY.same {bs:List (Nat×Nat)} {tm:List SV} {a:Array Value} (h:aY bs tm a) {t:Nat} {s:SV} (hs:cK bs s (a.getD t undef)):aY bs (tm.set t s) a:=by
 refine⟨by simp[h.len],fun k=>?_⟩
 by_cases hk:t=k
 · subst hk
   by_cases hlt:t<tm.length
   · rw[fI _ hlt];exact hs
   · rw[bq,List.getElem?_eq_none (by simp;omega)];exact trivial
 · rw[mh _ hk];exact h.ok k
theorem xp {a:Array Value} {d t:Nat} {v x:Value} (h:a[t]? = some x) (hd:d≠t):(Act.put ⟨a,[]⟩ (some d) v).tmps[t]? = some x:=by
 show(a.setIfInBounds d v)[t]? = _
 rw[Array.getElem?_setIfInBounds_ne hd,h]
theorem eW {act:Act} (h:act.defers = []):act=⟨act.tmps,[]⟩:=by
 cases act
 simp at h
 subst h
 rfl
theorem my (hT:bt P aT) {ops:Array Oper} {Q:Exit→Act→World→Prop} : ∀ (r:List Oper) (k:Nat),ops.toList.drop k=r→∀ (g:Option yo) (tm:List SV) (bs:List (Nat×Nat))
 (cs:List (List Value)) (D:Fx) (K:KT) (a:Array Value) (w:World),(∀ act w,ft w0 R av K act w→Q .normal act w)→gi P aT w0 R av ops.toList r g tm bs cs D K→
 aY bs tm a→St w0 R av w bs cs D→GI ops.toList g tm a→wpOps P ops Q (List.range' k r.length) ⟨a,[]⟩ w
 | [],k,hd,g,tm,bs,cs,D,K,a,w,hQ,h,hf,hst,hg=>by
  simp only[List.length_nil,List.range'_zero,wpOps]
  exact hQ _ _ ⟨rfl,tm,bs,cs,D,hf,hst,h⟩
 | o::r,k,hd,g,tm,bs,cs,D,K,a,w,hQ,h,hf,hst,hg=>by
  have ho:ops[k]? = some o:=by
   rw[← Array.getElem?_toList]
   have:=List.getElem?_drop (xs:=ops.toList) (i:=k) (j:=0)
   rw[hd] at this
   simpa using this.symm
  have hd':ops.toList.drop (k+1)=r:=by
   rw[← List.drop_drop,hd];rfl
  have hrec:=my hT (ops:=ops) (Q:=Q) r (k+1) hd'
  simp only[List.length_cons,List.range'_succ]
  have hnext : ∀ act w',ft w0 R av (fun tm bs cs D=>gi P aT w0 R av ops.toList r none tm bs cs D K) act w'→wpOps P ops Q (List.range' (k+1) r.length) act w':=by
   intro act w' ⟨hdf,tm',bs',cs',D',h1,h2,h3⟩
   rw[eW hdf]
   exact hrec none tm' bs' cs' D' K act.tmps w' hQ h3 h1 h2 (GI.none _ _ _)
  simp only[gi] at h
  cases hgd:o.guard with
  | none=>
   rw[hgd] at h
   refine iL ho (by unfold Region.wanted;rw[hgd]) ?_
   exact Oper.wp_mono hnext (jY hT hf hst h Q)
  | some jp=>
   obtain⟨j,pol⟩:=jp
   rw[hgd] at h
   simp only at h
   have hskip : ∀ {tm:List SV},aY bs tm a→Region.wanted o (yielded ops a)=false→(fin o.dst tm (.v undef) fun tm=>gi P aT w0 R av ops.toList r none tm bs cs D K)→
    wpOps P ops Q (k::List.range' (k+1) r.length) ⟨a,[]⟩ w:=by
    intro tm hf hw h
    refine mR ho hw (hnext _ _ ?_)
    exact eK (s:=.v undef) hf rfl hst h
   have hdo : ∀ {tm:List SV},aY bs tm a→Region.wanted o (yielded ops a)=true→(zi P aT w0 R av o tm bs cs D fun tm bs cs D=>gi P aT w0 R av ops.toList r none tm bs cs D K)→
    wpOps P ops Q (k::List.range' (k+1) r.length) ⟨a,[]⟩ w:=by
    intro tm hf hw h
    exact iL ho hw (Oper.wp_mono hnext (jY hT hf hst h Q))
   have hgrp : ∀ (G:yo) (E:Prop),fc o G.j G.pol=true→(∃ oj,ops.toList[G.j]? = some oj∧oj.dst=some G.t)→a[G.t]? = some (.bool G.c)→
    (∀ s,jm G.as s=true→∃ x,nth .any tm s = .g G.c G.pol x)→
    xi aT o G tm bs cs D (fun G tm bs cs D=>gi P aT w0 R av ops.toList r (some G) tm bs cs D K) E→
    E∨wpOps P ops Q (k::List.range' (k+1) r.length) ⟨a,[]⟩ w:=by
    intro G E hgo hoj hat hsl h
    obtain⟨oj,hoj1,hoj2⟩:=hoj
    have hgd':=rK hgo
    have hwt:Region.wanted o (yielded ops a)=(some G.c == some G.pol):=by
     rw[ew hgd',ja hoj1 hoj2 hat]
    have hlay : ∀ (s:SV) (d:Nat),o.dst=some d→Nat.beq d G.t=false→
     (jd tm d (.g G.c G.pol s) fun tm'=>gi P aT w0 R av ops.toList r (some ⟨G.j,G.pol,G.c,d::G.as,G.t⟩) tm' bs cs D K)→
     ∀ y,cK bs (.g G.c G.pol s) y→wpOps P ops Q (List.range' (k+1) r.length) (Act.put ⟨a,[]⟩ o.dst y) w:=by
     intro s d hdst hne h y hy
     obtain⟨hlt,h⟩:=cD h
     have hdne:d≠G.t:=fun e=>by subst e;rw[Nat.beq_refl] at hne;cases hne
     rw[hdst]
     refine hrec _ _ _ _ _ K _ w hQ h (hf.set d hy) hst ?_
     intro G' hG'
     cases hG'
     refine⟨⟨oj,hoj1,hoj2⟩,xp hat hdne,fun t ht=>?_⟩
     rcases tR ht with rfl | ht
     · exact⟨s,fI _ hlt⟩
     · by_cases hdt:d=t
       · subst hdt;exact⟨s,fI _ hlt⟩
       · rw[mh _ hdt];exact hsl t ht
    unfold xi at h
    by_cases hcp:G.c=G.pol
    · rcases gF hT hf (c:=G.c) (pol:=G.pol) ⟨hsl,fun _=>hcp⟩ h with h | ⟨v,s,h1,h2,h3⟩
      · exact .inl h
      · cases hdo':o.dst with
        | none=>rw[hdo'] at h3;exact h3.elim
        | some d=>
         rw[hdo'] at h3
         simp only at h3
         split at h3
         · exact h3.elim
         · rename_i hbq
           refine .inr (iL ho (by show Region.wanted o (yielded ops a)=true;rw[hwt,hcp];simp) ?_)
           exact ec (h1 w fun _=>hst.box) (hlay s d hdo' hbq h3 v (fun _=>h2))
    · rcases xn h with h | ⟨s,h3⟩
      · exact .inl h
      · cases hdo':o.dst with
        | none=>rw[hdo'] at h3;exact h3.elim
        | some d=>
         rw[hdo'] at h3
         simp only at h3
         split at h3
         · exact h3.elim
         · rename_i hbq
           refine .inr (mR ho (by show Region.wanted o (yielded ops a)=false;rw[hwt];simpa using hcp) ?_)
           exact hlay s d hdo' hbq h3 undef (fun e=>absurd e hcp)
   have hfresh:oh P aT w0 R av ops.toList o r j pol tm bs cs D (fun tm bs cs D=>gi P aT w0 R av ops.toList r none tm bs cs D K)
    (fun G tm bs cs D=>gi P aT w0 R av ops.toList r (some G) tm bs cs D K)→wpOps P ops Q (k::List.range' (k+1) r.length) ⟨a,[]⟩ w:=by
    intro h
    unfold oh vj at h
    obtain⟨hjl,h⟩:=bg o h
    have hj:ops.toList[j]? = some (nth o ops.toList j):=by rw[bq,List.getElem?_eq_getElem hjl];rfl
    generalize nth o ops.toList j=oj at h hj
    cases hdj:oj.dst with
    | none=>rw[hdj] at h;exact h.elim
    | some t=>
     rw[hdj] at h
     simp only at h
     obtain⟨htl,h⟩:=bg SV.any h
     have hta:t<a.size:=by rw[← hf.len];exact htl
     have hok:=hf.ok t
     split at h
     · rename_i c hsv
       rw[hsv] at hok
       have hat:a[t]? = some (.bool c):=iX hta hok
       have hwt:Region.wanted o (yielded ops a)=(some c == some pol):=by rw[ew hgd,ja hj hdj hat]
       have hcut:xJ P aT w0 R av o pol c t tm bs cs D (fun tm bs cs D=>gi P aT w0 R av ops.toList r none tm bs cs D K)→
        wpOps P ops Q (k::List.range' (k+1) r.length) ⟨a,[]⟩ w:=by
        intro h
        unfold xJ at h
        cases pol<;>cases c
        · obtain⟨_,h⟩:=cD h
          exact hdo (hf.same hok) (by rw[hwt];rfl) h
        · obtain⟨_,h⟩:=cD h
          exact hskip (hf.same hok) (by rw[hwt];rfl) h
        · obtain⟨_,h⟩:=cD h
          exact hskip (hf.same hok) (by rw[hwt];rfl) h
        · obtain⟨_,h⟩:=cD h
          exact hdo (hf.same hok) (by rw[hwt];rfl) h
       split at h
       · rcases hgrp ⟨j,pol,c,[],t⟩ _ (by unfold fc;rw[hgd];simp only[Nat.beq_refl];cases pol<;>rfl) ⟨oj,hj,hdj⟩ hat (fun s hs=>by simp[jm] at hs) h with h | h
         · exact hcut h
         · exact h
       · exact hcut h
     · rename_i x hsv
       rw[hsv] at hok
       have hat:a[t]? = some (.tuple x):=iX hta hok
       exact hskip hf (by rw[ew hgd,nt hj hdj hat];rfl) h
     · exact h.elim
   cases hgg:g with
   | none=>rw[hgg] at h;exact hfresh h
   | some G=>
    rw[hgg] at h
    simp only at h
    split at h
    · rename_i hgi
      obtain⟨hoj,hat,hsl⟩:=hg G hgg
      rcases hgrp G _ hgi hoj hat hsl h with h | h
      · exact h.elim
      · exact h
    · exact hfresh h
theorem eG (hT:bt P aT) : ∀ (c:Code) (tm:List SV) (bs:List (Nat×Nat)) (cs:List (List Value)) (D:Fx) (K:Exit→KT) (a:Array Value) (w:World),
 xc P aT w0 R av c tm bs cs D K→aY bs tm a→St w0 R av w bs cs D→c.wp P (xA w0 R av K) ⟨a,[]⟩ w:=by
 intro c
 induction c with
 | skip=>exact fun tm bs cs D K a w h hf hst=>wp_skip ⟨rfl,tm,bs,cs,D,hf,hst,h⟩
 | region id ops draw=>
  intro tm bs cs D K a w h hf hst
  cases draw with
  | true=>
   simp only[xc] at h
   exact bI.1 h a w hf hst
  | false=>
   refine wp_region ?_
   rw[List.range_eq_range']
   have h':gi P aT w0 R av ops.toList ops.toList none tm bs cs D (K .normal):=by
    obtain⟨l⟩:=ops
    simpa only[xc] using h
   have:=my hT (ops:=ops) (Q:=xA w0 R av K) ops.toList 0 rfl none tm bs cs D (K .normal) a w (fun act w h=>h) h' hf hst (GI.none _ _ _)
   rwa [Array.length_toList] at this
 | seq x y ihx ihy=>
  intro tm bs cs D K a w h hf hst
  simp only[xc] at h
  refine wp_seq (wp_mono (ihx _ _ _ _ _ _ _ h hf hst) ?_)
  rintro e act w' ⟨hd,tm',bs',cs',D',h1,h2,h3⟩
  rw[eW hd]
  cases e with
  | normal=>exact ihy _ _ _ _ _ _ _ h3 h1 h2
  | _=>exact⟨rfl,tm',bs',cs',D',h1,h2,h3⟩
 | cond c x y ihx ihy=>
  intro tm bs cs D K a w h hf hst
  simp only[xc] at h
  obtain⟨s,hs,h⟩:=bw hf (uN.nil tm) h
  split at h
  · rename_i t
    cases t
    · exact wp_cond_false hs (ihy _ _ _ _ _ _ _ h hf hst)
    · exact wp_cond_true hs (ihx _ _ _ _ _ _ _ h hf hst)
  · exact h.elim
 | block id c ih=>
  intro tm bs cs D K a w h hf hst
  simp only[xc] at h
  refine wp_block (wp_mono (ih _ _ _ _ _ _ _ h hf hst) ?_)
  rintro e act w' ⟨hd,tm',bs',cs',D',h1,h2,h3⟩
  cases e with
  | exit i=>
   simp only at h3
   unfold Exit.inBlock
   simp only
   split at h3
   · rename_i hb
     rw[if_pos (Nat.eq_of_beq_eq_true hb)]
     exact⟨hd,tm',bs',cs',D',h1,h2,h3⟩
   · rename_i hb
     rw[if_neg (fun e=>by subst e;rw[Nat.beq_refl] at hb;cases hb)]
     exact⟨hd,tm',bs',cs',D',h1,h2,h3⟩
  | _=>exact⟨hd,tm',bs',cs',D',h1,h2,h3⟩
 | ret=>exact fun tm bs cs D K a w h hf hst=>wp_ret ⟨rfl,tm,bs,cs,D,hf,hst,h⟩
 | exit id=>exact fun tm bs cs D K a w h hf hst=>wp_exit ⟨rfl,tm,bs,cs,D,hf,hst,h⟩
 | loop c _=>exact fun tm bs cs D K a w h hf hst=>by simp only[xc] at h;exact bI.1 h a w hf hst
 | rangeFunc f ps x y _ _=>exact fun tm bs cs D K a w h hf hst=>by simp only[xc] at h;exact bI.1 h a w hf hst
 | scope c _=>exact fun tm bs cs D K a w h hf hst=>by simp only[xc] at h;exact bI.1 h a w hf hst
 | label l=>exact fun tm bs cs D K a w h hf hst=>by simp only[xc] at h;exact bI.1 h a w hf hst
 | goto l=>exact fun tm bs cs D K a w h hf hst=>by simp only[xc] at h;exact bI.1 h a w hf hst
 | refuse s=>exact fun tm bs cs D K a w h hf hst=>by simp only[xc] at h;exact bI.1 h a w hf hst
end
end Go.Sx
namespace Go.Sx
set_option linter.unusedVariables false
def uF (aT:dy) (tm:List SV) (bs:List (Nat×Nat)) (cs:List (List Value)):List ResultVar→(List Value→Prop)→Prop
 | [],K=>K []
 | .tmp t::r,K=>dK tm t fun s=>vK bs s fun v=>uF aT tm bs cs r fun vs=>K (v::vs)
 | .cell a t::r,K=>dK tm a fun s=>match s with
  | .p i o=>match look aT t with
   | some ti=>nN ti cs i o fun sv=>match sv with
    | .v v=>uF aT tm bs cs r fun vs=>K (v::vs)
    | _=>False
   | none=>False
  | _=>False
def yn (K:Value→Prop):List Value→Prop
 | [v]=>K v
 | vs=>K (.tuple ⟨vs⟩)
abbrev Fin:=Value→List (Nat×Nat)→List (List Value)→Fx→Prop
def jN (aT:dy) (rs:List ResultVar) (F:Fin):Exit→KT:=fun e tm bs cs D=>match e with
 | .ret=>uF aT tm bs cs rs (yn fun v=>F v bs cs D)
 | .normal=>uF aT tm bs cs rs (yn fun v=>F v bs cs D)
 | _=>False
def wW:Nat→(List SV→Prop)→Prop
 | 0,K=>K []
 | n+1,K=>wW n fun l=>K (.any::l)
def qa:List SV→Nat→(List SV→Prop)→Prop
 | [],n,K=>wW n K
 | x::xs,n,K=>qa xs n fun l=>K (x::l)
theorem qT : ∀ {n:Nat} {K:List SV→Prop},wW n K→K (List.replicate n .any)
 | 0,K,h=>h
 | n+1,K,h=>by
  have:=qT (n:=n) h
  simpa [List.replicate_succ] using this
theorem mi : ∀ {l:List SV} {n:Nat} {K:List SV→Prop},qa l n K→K (l++List.replicate n .any)
 | [],n,K,h=>qT h
 | x::xs,n,K,h=>mi (l:=xs) h
def n9 (a:Array Value) (r:ResultVar):Sem Value:=match r with
 | .tmp t=>pure (a.getD t undef)
 | .cell b t=>do loadVar t (← asAddr (a.getD b undef))
section
variable {P:Program} {aT:dy} {w0:World} {R:Nat→Nat→Prop} {av:Nat→Prop}
theorem iH (hT:bt P aT) {tm:List SV} {bs:List (Nat×Nat)} {cs:List (List Value)} {a:Array Value} {w:World} (hf:aY bs tm a) (hb:bZ w bs cs) :
 ∀ {rs:List ResultVar} {K:List Value→Prop},uF aT tm bs cs rs K→∃ vs,(rs.mapM (n9 a)).run P w = .ok vs w∧K vs
 | [],K,h=>⟨[],rfl,h⟩
 | .tmp t::r,K,h=>by
  obtain⟨_,h⟩:=bg SV.any h
  have h:=pS (hf.ok t) h
  obtain⟨vs,h1,h2⟩:=iH hT hf hb h
  refine⟨_,?_,h2⟩
  rw[List.mapM_cons,ai (a:=a.getD t undef) (w':=w) rfl,ai h1]
  rfl
 | .cell b t::r,K,h=>by
  obtain⟨_,h⟩:=bg SV.any h
  have hok:=hf.ok b
  split at h
  · rename_i i o hs
    rw[hs] at hok
    obtain⟨hok,_⟩:=hok
    split at h
    · rename_i ti hl
      obtain⟨v,h1,h⟩:=kM (bs:=bs) (hT _ _ hl) h
      simp only at h
      obtain⟨vs,h2,h3⟩:=iH hT hf hb h
      refine⟨_,?_,h3⟩
      rw[List.mapM_cons]
      rw[ai (a:=v) (w':=w) (by simp only[n9,hok];exact h1 w hb),ai h2]
      rfl
    · exact h.elim
  · exact h.elim
theorem dz (hT:bt P aT) {fn:Func} {tm:List SV} {bs:List (Nat×Nat)} {cs:List (List Value)} {a:Array Value} {w:World} (hf:aY bs tm a) (hb:bZ w bs cs) {K:Value→Prop}
 (h:uF aT tm bs cs fn.results.toList (yn K)) : ∃ v,(results fn a).run P w = .ok v w∧K v:=by
 obtain⟨vs,h1,h2⟩:=iH hT hf hb h
 have hm:(fn.results.mapM (n9 a)).run P w = .ok ⟨vs⟩ w:=by
  rw[Array.mapM_eq_mapM_toList]
  show(List.toArray <$> _:Sem (Array Value)).run P w=_
  rw[← bind_pure_comp,ai h1]
  rfl
 have hres:results fn a=(do let vs ← fn.results.mapM (n9 a);pure (if h:vs.size=1 then vs[0] else .tuple vs)):=by
  unfold results
  congr 1
 rw[hres,ai hm]
 cases vs with
 | nil=>exact⟨_,rfl,h2⟩
 | cons v vs=>
  cases vs with
  | nil=>exact⟨v,rfl,h2⟩
  | cons u us=>
   refine⟨.tuple ⟨v::u::us⟩,?_,h2⟩
   simp
theorem gM (hT:bt P aT) {f:FuncId} {fn:Func} (hfn:P.funcs[f]? = some fn) {c:Code} (hb:fn.body=some c) {vs:List Value} {svs:List SV} {bs:List (Nat×Nat)} {cs:List (List Value)}
 {D:Fx} {F:Fin} {n:Nat} (hn:fn.ntmps=vs.length+n) (hlen:svs.length=vs.length) (hok : ∀ i,i<vs.length→cK bs (nth .any svs i) (nth undef vs i)) (hst:St w0 R av w0 bs cs D)
 (h:qa svs n fun tm=>xc P aT w0 R av c tm bs cs D (jN aT fn.results.toList F)) :
 Calls P f vs.toArray w0 fun e w'=>∃ v bs' cs' D',e = .returned v∧St w0 R av w' bs' cs' D'∧F v bs' cs' D':=by
 have h:=mi h
 refine calls_of_wp hfn hb ?_
 have hfr:aY bs (svs++List.replicate n .any) (vs.toArray++Array.replicate (fn.ntmps - vs.toArray.size) undef):=by
  refine⟨by simp;omega,fun t=>?_⟩
  rw[bq]
  by_cases ht:t<vs.length
  · rw[List.getElem?_append_left (by omega),← bq]
    have:=hok t ht
    rw[bq undef] at this
    have e:(vs.toArray++Array.replicate (fn.ntmps - vs.toArray.size) undef).getD t undef=(vs[t]?).getD undef:=by
     rw[Array.getD_eq_getD_getElem?,Array.getElem?_append_left (by simpa using ht)]
     simp
    rw[e]
    exact this
  · have:(svs++List.replicate n SV.any)[t]?.getD .any = .any:=by
     rw[List.getElem?_append_right (by omega),List.getElem?_replicate]
     split<;>rfl
    rw[this]
    exact trivial
 refine wp_mono (eG hT c _ _ _ _ _ _ _ h hfr hst) ?_
 rintro e act w' ⟨hd,tm',bs',cs',D',h1,h2,h3⟩
 cases e with
 | normal=>
  obtain⟨v,g1,g2⟩:=dz hT h1 h2.box h3
  exact⟨hd,v,g1,v,bs',cs',D',rfl,h2,g2⟩
 | ret=>
  obtain⟨v,g1,g2⟩:=dz hT h1 h2.box h3
  exact⟨hd,v,g1,v,bs',cs',D',rfl,h2,g2⟩
 | _=>exact h3.elim
def ah (P:Program) (f:FuncId) (vs:List Value) (Pre:World→Prop) (Rel:Value→Fx→Prop):Prop:=
 fB P f∧∀ (av:Nat→Prop) (w:World),(∀ b,av b→b<w.heap.size)→Holds av w Pre→Calls P f vs.toArray w fun e w'=>∃ v F,e = .returned v∧eB w w'∧vh av w.heap.size w' F∧Rel v F
def dm (Rel:Value→Fx→Prop):Fin:=fun v _ _ F=>∃ F',ao F F'∧Rel v F'
theorem Holds.less {av av':Nat→Prop} {w:World} {D:World→Prop} (h:Holds av w D) (ha : ∀ b,av' b→av b):Holds av' w D:=
 h.move (Nat.le_refl _) (fun _ _ _=>rfl) (fun b hb=>.inl (ha b hb))
theorem St.tz {w:World} {bs:List (Nat×Nat)} {cs:List (List Value)} {F:Fx} (h:St w0 R av w bs cs F) (hR : ∀ b,∃ i,¬ R b i) : ∀ r∈F.rs,fC w r.1 r.2∧w0.heap.size≤r.1:=fun r hr=>by
 obtain⟨h1,h2⟩:=h.rows r hr
 refine⟨h1,h2.resolve_right fun h3=>?_⟩
 obtain⟨i,hi⟩:=hR r.1
 exact hi (h3.2.1 i)
theorem St.fx {w:World} {bs:List (Nat×Nat)} {cs:List (List Value)} {F:Fx} (h:St w0 R av w bs cs F) (hR : ∀ b,∃ i,¬ R b i):vh av w0.heap.size w F:=
 ⟨h.tz hR,(List.nodup_append.1 h.nd).2.1,h.data.less fun b hb=>hb.elim .inl (fun hb=>.inr (.inr hb))⟩
theorem ah.aK (hT:bt P aT) {f:FuncId} {fn:Func} (hfn:P.funcs[f]? = some fn) {c:Code} (hb:fn.body=some c) (hnm:(fn.name == "runtime.NumGoroutine")=false) {vs:List Value} {svs:List SV}
 {n:Nat} (hn:fn.ntmps=vs.length+n) (hsv:svs=vs.map SV.v) {Pre:World→Prop} {Rel:Value→Fx→Prop}
 (h : ∀ w0 av,qa svs n fun tm=>xc P aT w0 (fun _ _=>False) av c tm [] [] ⟨Pre,[]⟩ (jN aT fn.results.toList (dm Rel))):ah P f vs Pre Rel:=by
 subst hsv
 refine⟨⟨fn,hfn,by rw[hb];rfl,hnm⟩,fun av w hav hpre=>?_⟩
 have hst:St w (fun _ _=>False) av w [] [] ⟨Pre,[]⟩:=
  ⟨cQ.refl _ _,trivial,by simp,fun i hi=>by simp at hi,hav,fun r hr=>by simp at hr,hpre.less fun b hb=>hb.elim id (fun h=>h.elim (fun⟨x,hx,_⟩=>by simp at hx) (fun⟨x,hx,_⟩=>by simp at hx))⟩
 refine(gM hT hfn hb hn (by simp) (fun i hi=>?_) hst (h w av)).mono ?_
 · rw[lE SV.v undef .any vs i hi];rfl
 · rintro e w' ⟨v,bs',cs',F,rfl,h1,F2,h2,h3⟩
   exact⟨v,F2,rfl,h1.keep,(h1.bF h2).fx fun _=>⟨0,id⟩,h3⟩
theorem ah.imp {f:FuncId} {vs:List Value} {Pre Pre':World→Prop} {Rel Rel':Value→Fx→Prop} (h:ah P f vs Pre Rel) (hp : ∀ w,Pre' w→Pre w)
 (hr : ∀ v D,Rel v D→Rel' v D):ah P f vs Pre' Rel':=
 ⟨h.1,fun av w hav hpre=>(h.2 av w hav (hpre.imp hp)).mono fun e w' ⟨v,D,h1,h2,h3,h4⟩=>⟨v,D,h1,h2,h3,hr v D h4⟩⟩
theorem aw.pure {f:FuncId} {vs:List Value} {Pre:World→Prop} {Rel:Value→Fx→Prop} {bs:List (Nat×Nat)} {cs:List (List Value)} {D:Fx} {K:KV} (spec:ah P f vs Pre Rel)
 (hpre : ∀ w,D.D w→Pre w) (h : ∀ v D',Rel v D'→K v bs cs (D.and D')):aw P w0 R av f vs bs cs D K:=by
 refine ct.2 ⟨spec.1,fun w hst=>?_⟩
 refine(spec.2 (Av av bs D.rs) w (fun b hb=>hst.zQ hb) (hst.data.imp hpre)).mono ?_
 rintro e w' ⟨v,D',rfl,h1,h2,h3⟩
 exact⟨v,[],cs,_,rfl,by rw[List.append_nil];exact hst.kept h1 h2,by rw[List.append_nil];exact h v D' h3⟩
theorem aw.val {f:FuncId} {vs:List Value} {Pre:World→Prop} {Rel:Value→Fx→Prop} {bs:List (Nat×Nat)} {cs:List (List Value)} {D:Fx} {K:KV} (spec:ah P f vs Pre Rel)
 (hpre : ∀ w,D.D w→Pre w) (h : ∀ v D',Rel v D'→K v bs cs D):aw P w0 R av f vs bs cs D K:=by
 refine ct.2 ⟨spec.1,fun w hst=>?_⟩
 refine(spec.2 (Av av bs D.rs) w (fun b hb=>hst.zQ hb) (hst.data.imp hpre)).mono ?_
 rintro e w' ⟨v,D',rfl,h1,h2,h3⟩
 exact⟨v,[],cs,_,rfl,by rw[List.append_nil];exact hst.nM h1,by rw[List.append_nil];exact h v D' h3⟩
end
attribute [irreducible] ah
end Go.Sx
namespace Go.Sx
set_option linter.unusedVariables false
def Rg (b o n:Nat) (k i:Nat):Prop:=k=b∧o≤i∧i<o+n
def lJ (P:Program) (f:FuncId) (pre post:List Value) (c:List Value) (Pre:World→Prop) (Rel:Value→List Value→Fx→Prop):Prop:=
 fB P f∧∀ (av:Nat→Prop) (w:World) (b o:Nat),(∀ x,av x→x<w.heap.size)→Range w b o c→Holds (fun x=>av x∨x=b) w Pre→
  Calls P f (pre ++ .pointer (some ⟨b,o,none⟩)::post).toArray w fun e w'=>∃ v c' D,e = .returned v∧cQ (Rg b o c.length) w w'∧c'.length=c.length∧Range w' b o c'∧
   vh (fun x=>av x∨x=b) w.heap.size w' D∧Rel v c' D
def vz (b o n:Nat) (Rel:Value→List Value→Fx→Prop):Fin:=fun v bs cs D=>match bs,cs with
 | (b',o')::_,c'::_=>(b'=b∧o'=o∧c'.length=n)∧∃ D',ao D D'∧Rel v c' D'
 | _,_=>False
theorem bK {α:Type} (d:α) : ∀ (l m:List α) (i:Nat),i<l.length→nth d (l++m) i=nth d l i:=by
 intro l m i h
 rw[bq,bq,List.getElem?_append_left h]
section
variable {P:Program} {aT:dy} {w0:World} {R:Nat→Nat→Prop} {av:Nat→Prop}
theorem lJ.aK (hT:bt P aT) {f:FuncId} {fn:Func} (hfn:P.funcs[f]? = some fn) {c:Code} (hb:fn.body=some c) (hnm:(fn.name == "runtime.NumGoroutine")=false) {pre post:List Value} {svs:List SV}
 {n:Nat} (hn:fn.ntmps=pre.length+(post.length+1)+n) (hsv:svs=pre.map SV.v ++ .p 0 0::post.map SV.v) {cells:List Value} {Pre:World→Prop} {Rel:Value→List Value→Fx→Prop}
 (h : ∀ w0 av b o,qa svs n fun tm=>xc P aT w0 (Rg b o cells.length) av c tm [(b,o)] [cells] ⟨Pre,[]⟩ (jN aT fn.results.toList (vz b o cells.length Rel))):lJ P f pre post cells Pre Rel:=by
 subst hsv
 refine⟨⟨fn,hfn,by rw[hb];rfl,hnm⟩,fun av w b o hav hr hpre=>?_⟩
 have hst:St w (Rg b o cells.length) av w [(b,o)] [cells] ⟨Pre,[]⟩:=by
  refine⟨cQ.refl _ _,⟨hr,trivial⟩,by simp,fun i hi=>?_,hav,fun r hr=>by simp at hr,hpre.less fun x hx=>?_⟩
  · have:i=0:=by simpa using hi
    subst this
    exact .inr fun j hj=>⟨rfl,by simp[nth],by simpa [nth] using hj⟩
  · rcases hx with hx | ⟨y,hy,rfl⟩ | ⟨y,hy,rfl⟩
    · exact .inl hx
    · simp at hy;subst hy;exact .inr rfl
    · simp at hy
 refine(gM hT hfn hb (by simp only[List.length_append,List.length_cons];exact hn) (by simp) (fun i hi=>?_) hst (h w av b o)).mono ?_
 · rw[bq,bq]
   by_cases h1:i<pre.length
   · rw[List.getElem?_append_left (by simpa using h1),List.getElem?_append_left h1,List.getElem?_map,List.getElem?_eq_getElem h1]
     rfl
   · rw[List.getElem?_append_right (by simp;omega),List.getElem?_append_right (by omega)]
     simp only[List.length_map]
     cases hk:i - pre.length with
     | zero=>exact⟨by simp[ptr,nth],by simp⟩
     | succ k=>
      simp only[List.getElem?_cons_succ,List.getElem?_map]
      have:k<post.length:=by simp at hi;omega
      rw[List.getElem?_eq_getElem this]
      rfl
 · rintro e w' ⟨v,bs',cs',D',rfl,h1,h2⟩
   unfold vz at h2
   split at h2
   · rename_i b' o' bs c' cs
     obtain⟨⟨rfl,rfl,hl⟩,D2,h3,h4⟩:=h2
     have h5:=h1.bF h3
     refine⟨v,c',D2,rfl,h1.keep,hl,h1.box.1,⟨h5.tz fun k=>⟨o'+cells.length,fun hR=>by have:=hR.2.2;omega⟩,(List.nodup_append.1 h5.nd).2.1,h5.data.less fun x hx=>?_⟩,h4⟩
     rcases hx with(hx | rfl) | hx
     · exact .inl hx
     · exact .inr (.inl ⟨_,List.mem_cons_self ..,rfl⟩)
     · exact .inr (.inr hx)
   · exact h2.elim
theorem Range.sub {w:World} {b o s:Nat} {c:List Value} (h:Range w b o c) (n:Nat) (hs:s+n≤c.length):Range w b (o+s) ((c.drop s).take n):=by
 obtain⟨arr,e,h1,h2⟩:=h
 refine⟨arr,e,h1,fun j hj=>?_⟩
 simp at hj
 rw[List.getElem?_take,if_pos (by omega),List.getElem?_drop,Nat.add_assoc,h2 _ (by omega)]
theorem Range.after {w w':World} {b o s:Nat} {c c':List Value} (h:Range w b o c) (hk:cQ (Rg b (o+s) c'.length) w w') (hr:Range w' b (o+s) c') (hs:s+c'.length≤c.length) :
 Range w' b o (c.take s++c'++c.drop (s+c'.length)):=by
 obtain⟨arr,e,h1,h2⟩:=h
 obtain⟨arr',e',h1',h2'⟩:=hr
 refine⟨arr',e',h1',fun j hj=>?_⟩
 simp only[List.length_append,List.length_take,List.length_drop] at hj
 by_cases hin:s≤j∧j<s+c'.length
 · have:=h2' (j - s) (by omega)
   rw[show o+s+(j - s)=o+j from by omega] at this
   rw[this,List.append_assoc,List.getElem?_append_right (by simp only[List.length_take];omega),List.getElem?_append_left (by simp only[List.length_take];omega)]
   congr 1
   simp only[List.length_take]
   omega
 · obtain⟨o',ho',hs'⟩:=hk.obj b _ h1
   rw[h1'] at ho'
   have hcell:arr'[o+j]? = arr[o+j]?:=by
    rcases hs' with he | ⟨x,y,e1,f1,hx,hy,_,hi⟩ | ⟨_,es,n,es',n',hx,hy⟩
    rotate_left 2
    · cases hx
    · rw[← he] at ho';cases ho';rfl
    · rw[hy] at ho'
      cases ho'
      cases hx
      exact hi _ (fun hr=>hin ⟨by have:=hr.2.1;omega,by have:=hr.2.2;omega⟩)
   rw[hcell,h2 j (by omega)]
   by_cases hlt:j<s
   · rw[List.append_assoc,List.getElem?_append_left (by simp only[List.length_take];omega),List.getElem?_take,if_pos hlt]
   · rw[List.getElem?_append_right (by simp only[List.length_take,List.length_append];omega),List.getElem?_drop]
     congr 1
     simp only[List.length_take,List.length_append]
     omega
theorem St.AI {w w':World} {bs:List (Nat×Nat)} {cs:List (List Value)} {F F':Fx} (h:St w0 R av w bs cs F) (i:Nat) (hi:i<bs.length) (c':List Value) (hlen:c'.length=(nth [] cs i).length)
 (hw:cQ (fun b o=>b=(nth (0,0) bs i).1∧(nth (0,0) bs i).2≤o∧o<(nth (0,0) bs i).2+(nth [] cs i).length) w w')
 (hr:Range w' (nth (0,0) bs i).1 (nth (0,0) bs i).2 c') (hd:vh (Av av bs F.rs) w.heap.size w' F'):St w0 R av w' bs (cs.set i c') (F.and F'):=by
 have hp:=h.put i hi c' hlen hw hr
 refine⟨hp.keep,hp.box,?_,hp.own,hp.avlt,fun r hr=>?_,?_⟩
 · show(bs.map (·.1)++(F.rs++F'.rs).map (·.1)).Nodup
   rw[List.map_append,← List.append_assoc,List.nodup_append]
   refine⟨h.nd,hd.nd,fun x hx y hy hxy=>?_⟩
   subst hxy
   obtain⟨r,hr,rfl⟩:=List.mem_map.1 hy
   have h1:=(hd.rows r hr).2
   rcases List.mem_append.1 hx with hx | hx
   · obtain⟨z,hz,he⟩:=List.mem_map.1 hx
     have:=h.box.lt z hz
     omega
   · obtain⟨z,hz,he⟩:=List.mem_map.1 hx
     have:=(h.rows z hz).1.lt
     omega
 · rcases List.mem_append.1 hr with hr | hr
   · exact hp.rows r hr
   · exact⟨(hd.rows r hr).1,.inl (Nat.le_trans h.keep.size (hd.rows r hr).2)⟩
 · refine Holds.and ?_ ?_
   · refine h.data.move hw.size (fun b hb hna=>hw.same hb (fun _ hR=>hna (.inr (.inl ⟨_,gT hi,hR.1.symm⟩)))) (fun b hb=>?_)
     rcases hb with hb | hb | ⟨r,hr,rfl⟩
     · exact .inl (.inl hb)
     · exact .inl (.inr (.inl hb))
     · rcases List.mem_append.1 hr with hr | hr
       · exact .inl (.inr (.inr ⟨r,hr,rfl⟩))
       · exact .inr (hd.rows r hr).2
   · refine hd.data.less fun b hb=>?_
     rcases hb with hb | hb | ⟨r,hr,rfl⟩
     · exact .inl (.inl hb)
     · exact .inl (.inr (.inl hb))
     · rcases List.mem_append.1 hr with hr | hr
       · exact .inl (.inr (.inr ⟨r,hr,rfl⟩))
       · exact .inr ⟨r,hr,rfl⟩
theorem aw.ptr {f:FuncId} {vs pre post c:List Value} {Pre:World→Prop} {Rel:Value→List Value→Fx→Prop} {bs:List (Nat×Nat)} {cs:List (List Value)} {D:Fx} {K:KV}
 (spec:lJ P f pre post c Pre Rel) (i s:Nat) (hvs:vs=pre++Sx.ptr bs i s::post) (hsub:dK cs i fun l=>h_ l s c.length fun m=>m=c) (hpre : ∀ w,D.D w→Pre w)
 (h : ∀ v c' D',c'.length=c.length→Rel v c' D'→dK cs i fun l=>eh l s c' fun l'=>jd cs i l' fun cs'=>K v bs cs' (D.and D')):aw P w0 R av f vs bs cs D K:=by
 subst hvs
 obtain⟨hi,hsub⟩:=bg [] hsub
 obtain⟨hle,hsub⟩:=ea hsub
 refine ct.2 ⟨spec.1,fun w hst=>?_⟩
 obtain⟨hr,hib⟩:=hst.box.get i hi
 have hr2:=hr.sub c.length hle
 rw[hsub] at hr2
 have hiff : ∀ x,Av av bs D.rs x↔((Av av bs D.rs x∧x≠(nth (0,0) bs i).1)∨x=(nth (0,0) bs i).1):=fun x=>by
  constructor
  · intro hx
    by_cases he:x=(nth (0,0) bs i).1
    · exact .inr he
    · exact .inl ⟨hx,he⟩
  · rintro(hx | rfl)
    · exact hx.1
    · exact .inr (.inl ⟨_,gT hib,rfl⟩)
 refine(spec.2 (fun x=>Av av bs D.rs x∧x≠(nth (0,0) bs i).1) w _ _ (fun x hx=>hst.zQ hx.1) hr2 ((hst.data.imp hpre).less fun x hx=>(hiff x).2 hx)).mono ?_
 rintro e w' ⟨v,c',D',rfl,h1,h2,h3,h4,h5⟩
 have hk:=h v c' D' h2 h5
 obtain⟨_,hk⟩:=bg [] hk
 obtain⟨hov,hk⟩:=dT hk
 obtain⟨_,hk⟩:=cD hk
 have hka:cQ (Rg (nth (0,0) bs i).1 ((nth (0,0) bs i).2+s) c'.length) w w':=by rw[h2];exact h1
 have hput:=hst.AI i hib _ (by simp only[List.length_append,List.length_take,List.length_drop];omega)
  (h1.mono fun k j hkj=>⟨hkj.1,by have:=hkj.2.1;omega,by have:=hkj.2.2;omega⟩) (hr.after hka h3 hov)
  ⟨h4.rows,h4.nd,h4.data.less fun x hx=>hx.elim (fun hx=>.inl ((hiff x).1 hx)) .inr⟩
 exact⟨v,[],_,_,rfl,by rw[List.append_nil];exact hput,by rw[List.append_nil];exact hk⟩
theorem wp_loop_ghost {c:Code} {Q:Exit→Act→World→Prop} {a:Act} {w:World} {ι:Type} (I:ι→Act→World→Prop) (μ:ι→Nat) (i0:ι) (h0:I i0 a w)
 (round : ∀ i a w,I i a w→c.wp P (Exit.then (fun a' w'=>∃ i',I i' a' w'∧μ i'<μ i) Q) a w):(Code.loop c).wp P Q a w:=by
 intro b k cs
 have key : ∀ n i a w,μ i=n→I i a w→∃ e a' w',Q e a' w'∧Arrives P (lone (b.at a (.code c :: .inLoop c::k)) cs w) b k cs e a' w':=by
  intro n
  induction n using Nat.strongRecOn with
  | _ n ih=>
   intro i a w hn hI
   obtain⟨e,a1,w1,hq,harr⟩:=round i a w hI b (.inLoop c::k) cs
   cases e with
   | normal=>
    obtain⟨i1,hI1,hlt⟩:=hq
    obtain⟨e2,a2,w2,hq2,harr2⟩:=ih (μ i1) (hn ▸ hlt) i1 a1 w1 rfl hI1
    exact⟨e2,a2,w2,hq2,.of_steps (Steps.trans harr (.one step_inLoop)) harr2⟩
   | exit id=>exact⟨_,a1,w1,hq,.pass (x:=.inLoop c) rfl (fun _ _=>.inl (by simp)) harr⟩
   | goto l=>exact⟨_,a1,w1,hq,.pass (x:=.inLoop c) rfl (fun _ _=>.inl (by simp)) harr⟩
   | ret=>exact⟨_,a1,w1,hq,.pass (x:=.inLoop c) rfl (fun _ _=>.inl (by simp)) harr⟩
   | panic ch=>exact⟨_,a1,w1,hq,.pass (x:=.inLoop c) rfl (fun _ _=>.inl (by simp)) harr⟩
   | outgrown=>exact⟨_,a1,w1,hq,.pass (x:=.inLoop c) rfl (fun _ _=>.inl (by simp)) harr⟩
 obtain⟨e,a',w',hq,harr⟩:=key _ i0 a w rfl h0
 exact⟨e,a',w',hq,.of_steps (.one step_loop) harr⟩
def ax:List SV→List SV→Prop
 | [],[]=>True
 | _::xs,.any::ys=>ax xs ys
 | x::xs,y::ys=>x=y∧ax xs ys
 | _,_=>False
theorem ax.nil:ax [] []:=trivial
theorem ax.any {x:SV} {xs ys:List SV} (h:ax xs ys):ax (x::xs) (.any::ys):=by simpa [ax] using h
theorem ax.cons {x:SV} {xs ys:List SV} (h:ax xs ys):ax (x::xs) (x::ys):=by cases x<;>simp[ax,h]
theorem ax.eq {x y:SV} {xs ys:List SV} (e:x=y) (h:ax xs ys):ax (x::xs) (y::ys):=e ▸ h.cons
theorem ax.len : ∀ {xs ys:List SV},ax xs ys→xs.length=ys.length
 | [],[],_=>rfl
 | x::xs,y::ys,h=>by
  have:ax xs ys:=by cases y<;>simp_all [ax]
  simp[this.len]
 | [],y::ys,h=>by simp[ax] at h
 | x::xs,[],h=>by simp[ax] at h
theorem ax.at : ∀ {xs ys:List SV},ax xs ys→∀ t,nth .any ys t = .any∨nth .any xs t=nth .any ys t
 | [],[],_,t=>.inl rfl
 | x::xs,y::ys,h,0=>by
  cases y with
  | any=>exact .inl rfl
  | _=>exact .inr h.1
 | x::xs,y::ys,h,t+1=>by
  have:ax xs ys:=by cases y<;>simp_all [ax]
  exact this.at t
 | [],y::ys,h,_=>by simp[ax] at h
 | x::xs,[],h,_=>by simp[ax] at h
theorem ax.ok {xs ys:List SV} (h:ax xs ys) {bs:List (Nat×Nat)} {a:Array Value} (hf:aY bs xs a):aY bs ys a:=by
 refine⟨by rw[← h.len];exact hf.len,fun t=>?_⟩
 rcases h.at t with he | he
 · rw[he];exact trivial
 · rw[← he];exact hf.ok t
def dP (A:List Nat):List SV→Nat→(List SV→Prop)→Prop
 | [],_,K=>K []
 | x::xs,n,K=>match jm A n with
  | true=>dP A xs (n+1) fun l=>K (.any::l)
  | false=>dP A xs (n+1) fun l=>K (x::l)
theorem fN {A:List Nat} : ∀ {l:List SV} {n:Nat} {K:List SV→Prop},dP A l n K→∃ m,K m∧∀ K',dP A l n K'→K' m
 | [],_,K,h=>⟨[],h,fun _ h=>h⟩
 | x::xs,n,K,h=>by
  simp only[dP] at h
  cases hm:jm A n with
  | true=>
   rw[hm] at h
   obtain⟨m,h1,h2⟩:=fN h
   exact⟨_,h1,fun K' h'=>by simp only[dP,hm] at h';exact h2 _ h'⟩
  | false=>
   rw[hm] at h
   obtain⟨m,h1,h2⟩:=fN h
   exact⟨_,h1,fun K' h'=>by simp only[dP,hm] at h';exact h2 _ h'⟩
def fm:List (Nat×SV)→List SV→(List SV→Prop)→Prop
 | [],tm,K=>K tm
 | (t,s)::r,tm,K=>jd tm t s fun tm'=>fm r tm' K
theorem fo : ∀ {r:List (Nat×SV)} {tm:List SV} {K:List SV→Prop},fm r tm K→∃ m,K m∧∀ K',fm r tm K'→K' m
 | [],tm,K,h=>⟨tm,h,fun _ h=>h⟩
 | (t,s)::r,tm,K,h=>by
  obtain⟨h0,h⟩:=cD h
  obtain⟨m,h1,h2⟩:=fo h
  exact⟨m,h1,fun K' h'=>h2 _ (cD h').2⟩
def ur:List (Nat×Nat)→List (List Value)→List (Nat×Nat)→List (List Value)→Prop
 | _,_,[],[]=>True
 | b'::bs',c'::cs',b::bs,c::cs=>(b'=b∧c'=c)∧ur bs' cs' bs cs
 | _,_,_,_=>False
theorem ur.parts : ∀ {bs':List (Nat×Nat)} {cs':List (List Value)} {bs:List (Nat×Nat)} {cs:List (List Value)},bs'.length=cs'.length→ur bs' cs' bs cs→
 ∃ e f,bs'=bs++e∧cs'=cs++f∧bs.length=cs.length
 | bs',cs',[],[],_,_=>⟨bs',cs',rfl,rfl,rfl⟩
 | b'::bs',c'::cs',b::bs,c::cs,hl,h=>by
  obtain⟨⟨rfl,rfl⟩,h⟩:=h
  obtain⟨e,f,h1,h2,h3⟩:=ur.parts (by simpa using hl) h
  exact⟨e,f,by rw[h1];rfl,by rw[h2];rfl,by simp[h3]⟩
 | [],_,_::_,_,_,h=>by simp[ur] at h
 | [],_,[],_::_,_,h=>by simp[ur] at h
 | _::_,[],_::_,_,hl,_=>by simp at hl
 | _::_,_,[],_::_,_,h=>by simp[ur] at h
 | _::_,_,_::_,[],_,h=>by simp[ur] at h
theorem bZ.left {w:World} : ∀ {bs:List (Nat×Nat)} {cs:List (List Value)} {e:List (Nat×Nat)} {f:List (List Value)},bs.length=cs.length→bZ w (bs++e) (cs++f)→bZ w bs cs
 | [],[],_,_,_,_=>trivial
 | (b,o)::bs,c::cs,e,f,hl,h=>⟨h.1,bZ.left (by simpa using hl) h.2⟩
 | [],_::_,_,_,hl,_=>by simp at hl
 | _::_,[],_,_,hl,_=>by simp at hl
theorem St.left {w:World} {bs e:List (Nat×Nat)} {cs f:List (List Value)} {D:Fx} (h:St w0 R av w (bs++e) (cs++f) D) (hl:bs.length=cs.length):St w0 R av w bs cs D:=by
 refine⟨h.keep,h.box.left hl,?_,fun i hi=>?_,h.avlt,h.rows,h.data.less fun b hb=>?_⟩
 · refine h.nd.sublist (List.Sublist.append ?_ (List.Sublist.refl _))
   rw[List.map_append]
   exact List.sublist_append_left _ _
 · have:=h.own i (by simp;omega)
   rw[bK _ _ _ _ hi,bK _ _ _ _ (by omega)] at this
   exact this
 · rcases hb with hb | ⟨x,hx,rfl⟩ | hb
   · exact .inl hb
   · exact .inr (.inl ⟨x,List.mem_append_left _ hx,rfl⟩)
   · exact .inr (.inr hb)
def zN (n:Nat):SV→Bool
 | .p i _=>Nat.blt i n
 | .g _ _ x=>zN n x
 | _=>true
def vu (n:Nat):List SV→Bool
 | []=>true
 | x::xs=>match zN n x with
  | true=>vu n xs
  | false=>false
theorem sT {n:Nat} : ∀ {l:List SV},vu n l=true→∀ t,zN n (nth .any l t)=true
 | [],_,_=>rfl
 | x::xs,h,0=>by
  simp only[vu] at h
  split at h
  · assumption
  · cases h
 | x::xs,h,t+1=>by
  simp only[vu] at h
  split at h
  · exact sT h t
  · cases h
theorem cK.back {bs ex:List (Nat×Nat)} : ∀ {s:SV} {y:Value},zN bs.length s=true→cK (bs++ex) s y→cK bs s y
 | .v _,_,_,h=>h
 | .p i o,y,hp,h=>by
  obtain⟨h1,h2⟩:=h
  have hi:i<bs.length:=by simpa [zN,Nat.blt_eq] using hp
  refine⟨?_,hi⟩
  rw[h1]
  unfold ptr
  rw[bK _ _ _ _ hi]
 | .g c pol x,_,hp,h=>fun hc=>cK.back (s:=x) hp (h hc)
 | .any,_,_,_=>trivial
def x6 {ι:Type} (I:ι→Prop) (vals:ι→List (Nat×SV)) (csI:ι→List (List Value)) (DI:ι→Fx) (μ:ι→Nat) (i:ι) (tm0:List SV) (bs:List (Nat×Nat)) (K:Exit→KT):Exit→KT:=
 fun e tm' bs' cs' D'=>match e with
  | .normal=>∃ i',(I i'∧μ i'<μ i)∧(fm (vals i') tm0 fun t=>ax tm' t∧vu bs.length t=true)∧ur bs' cs' bs (csI i')∧ao D' (DI i')
  | e=>K e tm' bs' cs' D'
theorem az.loop (hT:bt P aT) {ι:Type} {body:Code} {tm:List SV} {bs:List (Nat×Nat)} {cs:List (List Value)} {D:Fx} {K:Exit→KT} (A:List Nat) (I:ι→Prop)
 (vals:ι→List (Nat×SV)) (csI:ι→List (List Value)) (DI:ι→Fx) (μ:ι→Nat) (i0:ι) (h0:I i0)
 (start:dP A tm 0 fun tm0=>fm (vals i0) tm0 fun tm1=>ax tm tm1) (hcs:cs=csI i0) (hD:ao D (DI i0))
 (round : ∀ i,I i→dP A tm 0 fun tm0=>fm (vals i) tm0 fun tm1=>xc P aT w0 R av body tm1 bs (csI i) (DI i) (x6 I vals csI DI μ i tm0 bs K)) :
 az P w0 R av (.loop body) tm bs cs D K:=by
 obtain⟨tm0,start,htm0⟩:=fN start
 refine bI.2 fun a w hf hst=>?_
 refine wp_loop_ghost (ι:=ι) (fun i act w=>I i∧act.defers = []∧(∃ tmi,aY bs tmi act.tmps∧∀ K',fm (vals i) tm0 K'→K' tmi)∧St w0 R av w bs (csI i) (DI i)) μ i0 ?_ ?_
 · obtain⟨m,h1,h2⟩:=fo start
   refine⟨h0,rfl,⟨m,h1.ok hf,h2⟩,?_⟩
   rw[← hcs]
   exact hst.bF hD
 · rintro i act w ⟨hI,hd,⟨tmi,hfi,hmi⟩,hsti⟩
   have hx:=hmi _ (htm0 _ (round i hI))
   rw[eW hd]
   refine wp_mono (eG hT body _ _ _ _ _ _ _ hx hfi hsti) ?_
   rintro e act' w' ⟨hd',tm',bs',cs',D',h1,h2,h3⟩
   cases e with
   | normal=>
    obtain⟨i',⟨hi1,hi2⟩,hs,hbl,hDD⟩:=h3
    obtain⟨m,hm1,hm2⟩:=fo hs
    obtain⟨ex,fx,rfl,rfl,hl⟩:=hbl.parts h2.box.len.symm
    have hm:=hm1.1.ok h1
    exact⟨i',⟨hi1,hd',⟨m,⟨hm.len,fun t=>(hm.ok t).back (sT hm1.2 t)⟩,hm2⟩,(h2.left hl).bF hDD⟩,hi2⟩
   | _=>exact⟨hd',tm',bs',cs',D',h1,h2,h3⟩
end
attribute [irreducible] ax lJ
end Go.Sx
namespace Go.Sx
set_option linter.unusedVariables false
def eJ (e:Edge):Option Nat:=match e.ground with
 | .textOnly _=>none
 | .gcOnly _=>none
 | _=>some e.on
def dD:List Bool→Nat→Bool
 | [],_=>false
 | x::_,0=>x
 | _::xs,n+1=>dD xs n
def cU (L:List Bool):List Edge→Bool
 | []=>true
 | e::r=>match eJ e with
  | none=>cU L r
  | some i=>match dD L i with
   | true=>cU L r
   | false=>false
def cP (i:Nat):List Edge→Bool
 | []=>false
 | e::r=>match eJ e with
  | none=>cP i r
  | some k=>match Nat.beq i k with
   | true=>true
   | false=>cP i r
def iE (d:Nat):List Operand→Bool
 | []=>false
 | .tmp t::r=>match Nat.beq t d with
  | true=>true
  | false=>iE d r
 | _::r=>iE d r
def looks (all:List Oper) (d:Nat) (o:Oper):Bool:=
 match iE d o.op.operands.toList with
 | true=>true
 | false=>match o.guard with
  | none=>false
  | some (j,_)=>match ((all[j]?).bind (·.dst)) with
   | some t=>Nat.beq t d
   | none=>false
def vL (d:Nat) (o:Oper):Bool:=match o.dst with
 | some t=>Nat.beq t d
 | none=>false
def dj (all:List Oper) (i d:Nat) (oi:Oper):List Oper→Nat→Bool
 | [],_=>true
 | o::r,j=>match Nat.beq i j with
  | true=>match looks all d oi with
   | true=>false
   | false=>dj all i d oi r (j+1)
  | false=>match looks all d o,cP i o.after.toList with
   | true,false=>false
   | _,_=>match vL d o with
    | true=>false
    | false=>match o.dst with
     | none=>dj all i d oi r (j+1)
     | some t=>match looks all t oi,cP j oi.after.toList with
      | true,false=>false
      | _,_=>dj all i d oi r (j+1)
def mI:List Edge→Nat→Bool
 | [],_=>true
 | e::r,i=>match eJ e with
  | none=>mI r i
  | some k=>match Nat.blt k i with
   | true=>mI r i
   | false=>false
def gY:List Oper→Nat→Bool
 | [],_=>true
 | o::r,i=>match mI o.after.toList i with
  | true=>gY r (i+1)
  | false=>false
def qR:List Oper→Bool
 | []=>true
 | o::r=>match o.op with
  | .select _ _=>false
  | _=>qR r
def sC (aT:dy) (tm:List SV):Op→Option Bool
 | .load _ _=>some true
 | .indexAddr _ _ _=>some true
 | .index _ _ _=>some true
 | .slice _ _ _ _ _=>some true
 | .convert s d _=>match eR aT s,eR aT d with
  | true,true=>some false
  | _,_=>some true
 | .move _ | .assign _ | .fieldAddr _ _ _ | .field _ _ _ | .extract _ _ | .nilCheck _ | .makeFunc _ _ _ | .pick _ _ _ | .build _ _=>some false
 | .unOp _ t _=>match eR aT t with
  | true=>some false
  | false=>none
 | .binOp op t _ _ _=>match op with
  | .shl | .shr=>some true
  | _=>match eR aT t with
   | true=>some false
   | false=>some true
 | .call ⟨.builtin .len,⟨[_]⟩,⟨[t]⟩⟩=>match zj aT t with
  | true=>some false
  | false=>none
 | .call ⟨.builtin .min,_,_⟩=>some true
 | .call ⟨.builtin .max,_,_⟩=>some true
 | .call ⟨.builtin .cap,_,_⟩=>some true
 | _=>none
def ku (aT:dy) (all:List Oper) (tm:List SV) (L:List Bool):List Oper→Nat→Option (Nat×Bool)
 | [],_=>none
 | o::r,i=>match dD L i,cU L o.after.toList,sC aT tm o.op,o.dst with
  | false,true,some m,some d=>match dj all i d o all 0 with
   | true=>some (i,m)
   | false=>ku aT all tm L r (i+1)
  | _,_,_,_=>ku aT all tm L r (i+1)
def fk (L:List Bool):List Oper→Nat→List Nat
 | [],_=>[]
 | o::r,i=>match dD L i,cU L o.after.toList with
  | false,true=>i::fk L r (i+1)
  | _,_=>fk L r (i+1)
def iV:List Bool→Nat→List Bool
 | [],_=>[]
 | _::xs,0=>true::xs
 | x::xs,n+1=>x::iV xs n
inductive mW where
 | none
 | box (j:Nat)
 | all
 | base
def lA:List Oper→Nat→List Edge
 | [],_=>[]
 | o::_,0=>o.after.toList
 | _::r,n+1=>lA r n
def eH (all:List Oper):List Edge→List Edge
 | []=>[]
 | e::r=>match e.ground with
  | .data=>match eJ e with
   | some k=>lA all k++eH all r
   | none=>eH all r
  | _=>eH all r
def jP (all:List Oper):Nat→Nat→List Edge→Bool
 | 0,i,es=>cP i es
 | n+1,i,es=>match cP i es with
  | true=>true
  | false=>jP all n i (eH all es)
def ig (all:List Oper) (es:List Edge):List (Nat×mW)→List (Nat×mW)
 | []=>[]
 | (i,m)::r=>match jP all 3 i es with
  | true=>ig all es r
  | false=>(i,m)::ig all es r
def gD:List (Nat×mW)→Bool
 | []=>false
 | (_,.all)::_=>true
 | (_,.none)::r=>gD r
 | (_,.base)::r=>gD r
 | (_,.box _)::r=>gD r
structure aS (b b':Nat×Nat) (c c':List Value) (K:Prop):Prop where
 b:b'=b
 c:c'=c
 rest:K
theorem aS.of {b:Nat×Nat} {c:List Value} {K:Prop} (h:K):aS b b c c K:=⟨rfl,rfl,h⟩
def iB (bs:List (Nat×Nat)) (cs:List (List Value)) (bs':List (Nat×Nat)) (cs':List (List Value)) (K:Prop):List (Nat×mW)→Prop
 | []=>K
 | (_,.box j)::r=>dK bs j fun b=>dK bs' j fun b'=>dK cs j fun c=>dK cs' j fun c'=>aS b b' c c' (iB bs cs bs' cs' K r)
 | (_,.none)::r=>iB bs cs bs' cs' K r
 | (_,.base)::r=>iB bs cs bs' cs' K r
 | (_,.all)::r=>iB bs cs bs' cs' K r
structure an (bs:List (Nat×Nat)) (cs:List (List Value)) (D:Fx) (bs':List (Nat×Nat)) (cs':List (List Value)) (D':Fx) (K:Prop):Prop where
 data:ao D' D
 rest:K
def sS (all:List Oper) (o:Oper) (tm:List SV) (Y N:Prop):Prop:=match o.guard with
 | none=>Y
 | some (j,pol)=>dK all j fun oj=>match oj.dst with
  | none=>False
  | some t=>dK tm t fun s=>match s with
   | .v (.bool true)=>match pol with
    | true=>Y
    | false=>N
   | .v (.bool false)=>match pol with
    | true=>N
    | false=>Y
   | .v (.tuple _)=>N
   | _=>False
def o_ (i:Nat):List Oper→Bool
 | []=>false
 | o::r=>match o.guard with
  | some (j,_)=>match Nat.beq i j with
   | true=>true
   | false=>o_ i r
  | none=>o_ i r
def fQ (all:List Oper) (i:Nat) (o:Oper) (tm:List SV) (K:List SV→Prop):Prop:=match o_ i all,o.dst with
 | true,some d=>dK tm d fun s=>match s with
  | .v (.bool c)=>bT c (jd tm d (.v (.bool true)) K) (jd tm d (.v (.bool false)) K)
  | _=>K tm
 | _,_=>K tm
section
variable (P:Program) (aT:dy) (w0:World) (R:Nat→Nat→Prop) (av:Nat→Prop)
def ak (m:Sem Value) (bs:List (Nat×Nat)) (cs:List (List Value)) (D:Fx) (K:Value→Prop):Prop:=
 ∃ v,(∀ w,St w0 R av w bs cs D→m.run P w = .ok v w)∧K v
theorem bd {m:Sem Value} {bs:List (Nat×Nat)} {cs:List (List Value)} {D:Fx} {K:Value→Prop}:ak P w0 R av m bs cs D K↔∃ v,(∀ w,St w0 R av w bs cs D→m.run P w = .ok v w)∧K v:=Iff.rfl
def wj (o:Oper) (tm:List SV) (bs:List (Nat×Nat)) (cs:List (List Value)) (D:Fx) (K:SV→mW→Prop):Prop:=
 let KR:Value→Prop:=fun v=>K (.v v) .all
 let KB:Value→Prop:=fun v=>K (.v v) .base
 let F0:Fx:=⟨fun _=>True,[]⟩
 match o.op with
 | .load t x=>jy tm [] x fun sx=>match sx with
  | .p j s=>match look aT t with
   | some ti=>nN ti cs j s fun sv=>K sv (.box j)
   | none=>False
  | .v v=>ak P w0 R av (Instr.loadAt t v) [] [] D KR
  | _=>False
 | op=>ma aT [] op tm bs cs (fun sv=>K sv .none) (match op with
  | .indexAddr t x i=>gb tm [] bs x fun v=>gb tm [] bs i fun n=>ak P w0 R av (Instr.indexAt t v n) [] [] F0 KB
  | .index t x i=>gb tm [] bs x fun v=>gb tm [] bs i fun n=>ak P w0 R av (Instr.index t v n) [] [] F0 KB
  | .slice t x lo hi mx=>gb tm [] bs x fun v=>ze tm [] bs lo fun a=>ze tm [] bs hi fun b=>ze tm [] bs mx fun c=>ak P w0 R av (Instr.sliceAt t v a b c) [] [] F0 KB
  | .convert s d x=>gb tm [] bs x fun v=>ak P w0 R av (convert s d v) [] [] D KR
  | .binOp op t x y _=>gb tm [] bs x fun v=>gb tm [] bs y fun u=>ak P w0 R av (do eqGuard op t x y v u;binOp op t v u) [] [] F0 KB
  | .build t ⟨ps⟩=>qS tm [] bs ps fun vs=>ak P w0 R av (Instr.build t ⟨vs⟩) [] [] F0 KB
  | .call ⟨.builtin b,⟨xs⟩,ts⟩=>oL tm [] bs xs fun vs=>match xo b ts o.type ⟨vs⟩ with
   | some m=>ak P w0 R av m [] [] F0 KB
   | none=>False
  | _=>False)
def vv (E:List (Nat×mW)) (bs:List (Nat×Nat)) (cs:List (List Value)) (D:Fx) (bs':List (Nat×Nat)) (cs':List (List Value)) (D':Fx) (K:Prop):Prop:=
 match gD E with
 | true=>an bs cs D bs' cs' D' (iB bs cs bs' cs' K E)
 | false=>iB bs cs bs' cs' K E
def yC (S:Nat→Prop):List Nat→Prop
 | []=>False
 | [j]=>S j
 | j::r=>S j∧yC S r
def oq (all:List Oper):Nat→List Bool→List (Nat×mW)→List SV→List (Nat×Nat)→List (List Value)→Fx→KT→Prop
 | 0,_,_,_,_,_,_,_=>False
 | n+1,L,E,tm,bs,cs,D,K=>match ku aT all tm L all 0 with
  | some (i,m)=>dK all i fun o=>sS all o tm
   (wj P aT w0 R av o tm bs cs D fun sv dep=>fin o.dst tm sv fun tm=>fQ all i o tm fun tm=>oq all n (iV L i) ((i,dep)::E) tm bs cs D K)
   (fin o.dst tm (.v undef) fun tm=>oq all n (iV L i) ((i,.none)::E) tm bs cs D K)
  | none=>match fk L all 0 with
   | []=>K tm bs cs D
   | j::r=>yC (fun j=>dK all j fun o=>sS all o tm
    (zi P aT w0 R av o tm bs cs D fun tm' bs' cs' D'=>vv (ig all o.after.toList E) bs cs D bs' cs' D'
     (fQ all j o tm' fun tm'=>oq all n (iV L j) (ig all o.after.toList E) tm' bs' cs' D' K))
    (fin o.dst tm (.v undef) fun tm'=>oq all n (iV L j) (ig all o.after.toList E) tm' bs cs D K)) (j::r)
end
attribute [irreducible] ak
end Go.Sx
namespace Go.Sx
set_option linter.unusedVariables false
theorem fP {e:Edge} {i:Nat}:eJ e=some i↔Region.binds .any e=true∧e.on=i:=by
 unfold eJ Region.binds
 cases e.ground<;>simp
theorem gP {e:Edge} (h:eJ e=none):Region.binds .any e=false:=by
 unfold eJ at h
 unfold Region.binds
 cases hg:e.ground<;>rw[hg] at h<;>first | rfl | (cases h)
theorem cg {L:List Bool} : ∀ {es:List Edge},cU L es=true↔∀ e∈es,Region.binds .any e=true→dD L e.on=true
 | []=>by simp[cU]
 | e::r=>by
  simp only[cU,List.mem_cons,forall_eq_or_imp]
  cases he:eJ e with
  | none=>
   simp only
   rw[cg]
   have:=gP he
   simp[this]
  | some i=>
   obtain⟨h1,rfl⟩:=fP.1 he
   simp only
   cases hn:dD L e.on with
   | true=>simp only;rw[cg];simp
   | false=>simp[h1]
theorem dx {i:Nat} : ∀ {es:List Edge},cP i es=true↔∃ e∈es,Region.binds .any e=true∧e.on=i
 | []=>by simp[cP]
 | e::r=>by
  simp only[cP,List.mem_cons,exists_eq_or_imp]
  cases he:eJ e with
  | none=>
   simp only
   rw[dx]
   have:=gP he
   simp[this]
  | some k=>
   obtain⟨h1,rfl⟩:=fP.1 he
   simp only
   cases hb:Nat.beq i e.on with
   | true=>
    have:=Nat.eq_of_beq_eq_true hb
    simp[h1,this]
   | false=>
    simp only
    rw[dx]
    have:e.on≠i:=fun h=>by subst h;rw[Nat.beq_refl] at hb;cases hb
    simp[this]
theorem lH : ∀ (L:List Bool) (i:Nat),dD L i=(L[i]?).getD false
 | [],_=>by simp[dD]
 | _::_,0=>by simp[dD]
 | _::xs,n+1=>by simp[dD,lH xs n]
theorem lB : ∀ (L:List Bool) (i:Nat),iV L i=L.set i true
 | [],_=>by simp[iV]
 | _::_,0=>by simp[iV]
 | _::xs,n+1=>by simp[iV,lB xs n]
theorem cH {L:List Bool} {i j:Nat} (hi:i<L.length):dD (iV L i) j=true↔j=i∨dD L j=true:=by
 rw[lH,lH,lB]
 by_cases h:i=j
 · subst h;rw[List.getElem?_set_self hi];simp
 · rw[List.getElem?_set_ne h]
   constructor
   · exact .inr
   · rintro(rfl | h')
     · exact absurd rfl h
     · exact h'
theorem iN {d:Nat} : ∀ {xs:List Operand},iE d xs=true↔Operand.tmp d∈xs
 | []=>by simp[iE]
 | x::r=>by
  cases x with
  | tmp t=>
   simp only[iE,List.mem_cons,Operand.tmp.injEq]
   cases hb:Nat.beq t d with
   | true=>simp[Nat.eq_of_beq_eq_true hb]
   | false=>
    simp only
    rw[iN]
    have:d≠t:=fun h=>by subst h;rw[Nat.beq_refl] at hb;cases hb
    simp[this]
  | _=>
   simp only[iE,List.mem_cons]
   rw[iN]
   simp
theorem kI {all:List Oper} {d:Nat} {o:Oper} (h:looks all d o=false):Operand.tmp d ∉ o.op.operands.toList∧∀ j pol,o.guard=some (j,pol)→(all[j]?).bind (·.dst)≠some d:=by
 unfold looks at h
 split at h
 · cases h
 · rename_i hr
   refine⟨fun hm=>?_,fun j pol hg he=>?_⟩
   · rw[iN.2 hm] at hr;cases hr
   · rw[hg] at h
     simp only[he] at h
     rw[Nat.beq_refl] at h
     cases h
theorem kC {d:Nat} {o:Oper} (h:vL d o=false):o.dst≠some d:=by
 intro he
 unfold vL at h
 rw[he] at h
 simp only[Nat.beq_refl] at h
 cases h
structure zA (all:List Oper) (i d:Nat) (oi:Oper):Prop where
 own:looks all d oi=false
 looked : ∀ j oj,all[j]? = some oj→j≠i→looks all d oj=true→cP i oj.after.toList=true
 alone : ∀ j oj,all[j]? = some oj→j≠i→oj.dst≠some d
 looking : ∀ j oj t,all[j]? = some oj→j≠i→oj.dst=some t→looks all t oi=true→cP j oi.after.toList=true
theorem eC {all:List Oper} {i d:Nat} {oi:Oper} : ∀ {r:List Oper} {k:Nat},dj all i d oi r k=true→
 (∀ n oj,r[n]? = some oj→k+n≠i→(looks all d oj=true→cP i oj.after.toList=true)∧oj.dst≠some d∧∀ t,oj.dst=some t→looks all t oi=true→cP (k+n) oi.after.toList=true)∧
 ((∃ n,n<r.length∧k+n=i)→looks all d oi=false)
 | [],k,_=>⟨fun n oj h=>by simp at h,fun⟨n,h,_⟩=>by simp at h⟩
 | o::r,k,h=>by
  simp only[dj] at h
  cases hb:Nat.beq i k with
  | true=>
   have hik:=Nat.eq_of_beq_eq_true hb
   rw[hb] at h
   simp only at h
   cases hl:looks all d oi with
   | true=>rw[hl] at h;cases h
   | false=>
    rw[hl] at h
    simp only at h
    obtain⟨h1,h2⟩:=eC h
    refine⟨fun n oj hn hne=>?_,fun _=>rfl⟩
    cases n with
    | zero=>omega
    | succ n=>
     have:=h1 n oj (by simpa using hn) (by omega)
     rwa [show k+1+n=k+(n+1) from by omega] at this
  | false=>
   have hik:i≠k:=fun e=>by subst e;rw[Nat.beq_refl] at hb;cases hb
   rw[hb] at h
   simp only at h
   have key : ∀ (hrec:dj all i d oi r (k+1)=true),(looks all d o=true→cP i o.after.toList=true)→o.dst≠some d→
    (∀ t,o.dst=some t→looks all t oi=true→cP k oi.after.toList=true)→
    (∀ n oj,(o::r)[n]? = some oj→k+n≠i→(looks all d oj=true→cP i oj.after.toList=true)∧oj.dst≠some d∧∀ t,oj.dst=some t→looks all t oi=true→cP (k+n) oi.after.toList=true)∧
     ((∃ n,n<(o::r).length∧k+n=i)→looks all d oi=false):=by
    intro hrec p1 p2 p3
    obtain⟨h1,h2⟩:=eC hrec
    refine⟨fun n oj hn hne=>?_,fun⟨n,hn,he⟩=>?_⟩
    · cases n with
      | zero=>simp at hn;subst hn;exact⟨p1,p2,fun t ht hlk=>by simpa using p3 t ht hlk⟩
      | succ n=>
       have:=h1 n oj (by simpa using hn) (by omega)
       rwa [show k+1+n=k+(n+1) from by omega] at this
    · cases n with
      | zero=>omega
      | succ n=>exact h2 ⟨n,by simpa using hn,by omega⟩
   split at h
   · cases h
   · rename_i hnot
     have p1:looks all d o=true→cP i o.after.toList=true:=fun hl=>by
      cases ha:cP i o.after.toList with
      | true=>rfl
      | false=>exact absurd ha (hnot hl)
     split at h
     · cases h
     · rename_i hdst
       split at h
       · rename_i hnone
         exact key h p1 (kC hdst) (fun t ht=>by rw[hnone] at ht;cases ht)
       · rename_i t ht
         split at h
         · cases h
         · rename_i hnot2
           refine key h p1 (kC hdst) (fun t' ht' hl=>?_)
           rw[ht] at ht'
           cases ht'
           cases ha:cP k oi.after.toList with
           | true=>rfl
           | false=>exact absurd ha (hnot2 hl)
theorem xT {all:List Oper} {i d:Nat} {oi:Oper} (hi:i<all.length) (h:dj all i d oi all 0=true):zA all i d oi:=by
 obtain⟨h1,h2⟩:=eC h
 refine⟨h2 ⟨i,hi,by omega⟩,fun j oj hj hne=>(h1 j oj hj (by omega)).1,fun j oj hj hne=>(h1 j oj hj (by omega)).2.1,fun j oj t hj hne ht hl=>?_⟩
 have:=(h1 j oj hj (by omega)).2.2 t ht hl
 rwa [Nat.zero_add] at this
theorem kG {aT:dy} {all:List Oper} {tm:List SV} {L:List Bool} : ∀ {r:List Oper} {k:Nat} {i:Nat} {m:Bool},ku aT all tm L r k=some (i,m)→
 ∃ n o d,r[n]? = some o∧i=k+n∧dD L i=false∧cU L o.after.toList=true∧sC aT tm o.op=some m∧o.dst=some d∧dj all i d o all 0=true
 | [],_,_,_,h=>by simp[ku] at h
 | o::r,k,i,m,h=>by
  simp only[ku] at h
  have hrec:ku aT all tm L r (k+1)=some (i,m)→∃ n o' d,(o::r)[n]? = some o'∧i=k+n∧dD L i=false∧cU L o'.after.toList=true∧sC aT tm o'.op=some m∧o'.dst=some d∧dj all i d o' all 0=true:=by
   intro h
   obtain⟨n,o',d,h1,h2,h3⟩:=kG h
   exact⟨n+1,o',d,by simpa using h1,by omega,h3⟩
  split at h
  · rename_i m' d hL hw hr hd
    split at h
    · rename_i hf
      cases h
      exact⟨0,o,d,by simp,by omega,hL,hw,hr,hd,hf⟩
    · exact hrec h
  · exact hrec h
theorem fX {L:List Bool} : ∀ {r:List Oper} {k j:Nat},j∈fk L r k↔∃ n o,r[n]? = some o∧j=k+n∧dD L j=false∧cU L o.after.toList=true
 | [],k,j=>by simp[fk]
 | o::r,k,j=>by
  simp only[fk]
  have hrec:=fX (L:=L) (r:=r) (k:=k+1) (j:=j)
  have hsplit:(∃ n o',(o::r)[n]? = some o'∧j=k+n∧dD L j=false∧cU L o'.after.toList=true)↔
   (j=k∧dD L k=false∧cU L o.after.toList=true)∨j∈fk L r (k+1):=by
   rw[hrec]
   constructor
   · rintro⟨n,o',h1,h2,h3,h4⟩
     cases n with
     | zero=>
      simp at h1;subst h1;left;have:j=k:=by omega
      subst this;exact⟨rfl,h3,h4⟩
     | succ n=>right;exact⟨n,o',by simpa using h1,by omega,h3,h4⟩
   · rintro(⟨rfl,h2,h3⟩ | ⟨n,o',h1,h2,h3⟩)
     · exact⟨0,o,by simp,by omega,h2,h3⟩
     · exact⟨n+1,o',by simpa using h1,by omega,h3⟩
  rw[hsplit]
  cases h1:dD L k<;>cases h2:cU L o.after.toList<;>simp
theorem qW {S:Nat→Prop} : ∀ {l:List Nat},yC S l→∀ j∈l,S j
 | [],h,_,_=>h.elim
 | [j],h,k,hk=>by simp at hk;subst hk;exact h
 | j::i::r,h,k,hk=>by
  rcases List.mem_cons.1 hk with rfl | hk
  · exact h.1
  · exact qW h.2 k hk
theorem mo : ∀ {all:List Oper} {k:Nat} {e:Edge},e∈lA all k→∃ o,all[k]? = some o∧e∈o.after.toList
 | [],_,_,h=>by simp[lA] at h
 | o::_,0,_,h=>⟨o,rfl,h⟩
 | _::r,n+1,_,h=>by
  obtain⟨o,h1,h2⟩:=mo (all:=r) (k:=n) h
  exact⟨o,by simpa using h1,h2⟩
theorem ir {ops:Array Oper} {L':Array Bool} (hc : ∀ k ok,ops[k]? = some ok→L'.getD k false=true→∀ e∈ok.after,Region.binds .any e=true→L'.getD e.on false=true) :
 ∀ {es:List Edge},(∀ e∈es,Region.binds .any e=true→L'.getD e.on false=true)→∀ e∈eH ops.toList es,Region.binds .any e=true→L'.getD e.on false=true
 | [],_,e,he=>by simp[eH] at he
 | x::r,h,e,he=>by
  have ih:=ir hc (es:=r) fun e he=>h e (List.mem_cons_of_mem _ he)
  simp only[eH] at he
  split at he
  · split at he
    · rename_i k hk
      rcases List.mem_append.1 he with he | he
      · obtain⟨o,h1,h2⟩:=mo he
        have hx:Region.binds .any x=true∧x.on=k:=fP.1 hk
        have hd:=h x (List.mem_cons_self ..) hx.1
        rw[hx.2] at hd
        exact hc k o (by rw[← Array.getElem?_toList];exact h1) hd e (Array.mem_toList_iff.1 h2)
      · exact ih e he
    · exact ih e he
  · exact ih e he
theorem kO {ops:Array Oper} {L':Array Bool} (hc : ∀ k ok,ops[k]? = some ok→L'.getD k false=true→∀ e∈ok.after,Region.binds .any e=true→L'.getD e.on false=true) {i:Nat} :
 ∀ (n:Nat) {es:List Edge},(∀ e∈es,Region.binds .any e=true→L'.getD e.on false=true)→jP ops.toList n i es=true→L'.getD i false=true
 | 0,es,h,ha=>by
  obtain⟨e,he,hb,rfl⟩:=dx.1 ha
  exact h e he hb
 | n+1,es,h,ha=>by
  simp only[jP] at ha
  split at ha
  · rename_i h1
    obtain⟨e,he,hb,rfl⟩:=dx.1 h1
    exact h e he hb
  · exact kO hc n (ir hc h) ha
theorem nL {all:List Oper} {es:List Edge} {i:Nat} {m:mW} : ∀ {E:List (Nat×mW)},(i,m)∈E→jP all 3 i es=false→(i,m)∈ig all es E
 | [],h,_=>by simp at h
 | (k,b)::r,h,ha=>by
  simp only[ig]
  rcases List.mem_cons.1 h with h | h
  · cases h
    rw[ha]
    exact List.mem_cons_self ..
  · have:=nL h ha
    split
    · exact this
    · exact List.mem_cons_of_mem _ this
theorem fY {i:Nat} : ∀ {E:List (Nat×mW)},(i,mW.all)∈E→gD E=true
 | [],h=>by simp at h
 | (k,.all)::r,_=>rfl
 | (k,.none)::r,h=>by
  rcases List.mem_cons.1 h with h | h
  · cases h
  · show gD r=true
    exact fY h
 | (k,.base)::r,h=>by
  rcases List.mem_cons.1 h with h | h
  · cases h
  · show gD r=true
    exact fY h
 | (k,.box _)::r,h=>by
  rcases List.mem_cons.1 h with h | h
  · cases h
  · show gD r=true
    exact fY h
theorem dQ {bs:List (Nat×Nat)} {cs:List (List Value)} {bs':List (Nat×Nat)} {cs':List (List Value)} {K:Prop} : ∀ {E:List (Nat×mW)},iB bs cs bs' cs' K E→
 K∧∀ i j,(i,mW.box j)∈E→nth (0,0) bs' j=nth (0,0) bs j∧nth [] cs' j=nth [] cs j∧j<cs'.length
 | [],h=>⟨h,fun i j hi=>by simp at hi⟩
 | (k,.none)::r,h=>by
  obtain⟨h1,h2⟩:=dQ (E:=r) h
  refine⟨h1,fun i j hi=>?_⟩
  rcases List.mem_cons.1 hi with hi | hi
  · cases hi
  · exact h2 i j hi
 | (k,.base)::r,h=>by
  obtain⟨h1,h2⟩:=dQ (E:=r) h
  refine⟨h1,fun i j hi=>?_⟩
  rcases List.mem_cons.1 hi with hi | hi
  · cases hi
  · exact h2 i j hi
 | (k,.all)::r,h=>by
  obtain⟨h1,h2⟩:=dQ (E:=r) h
  refine⟨h1,fun i j hi=>?_⟩
  rcases List.mem_cons.1 hi with hi | hi
  · cases hi
  · exact h2 i j hi
 | (k,.box j')::r,h=>by
  obtain⟨_,h⟩:=bg (0,0) h
  obtain⟨_,h⟩:=bg (0,0) h
  obtain⟨_,h⟩:=bg [] h
  obtain⟨hl,h⟩:=bg [] h
  obtain⟨e1,e2,h⟩:=h
  obtain⟨h1,h2⟩:=dQ (E:=r) h
  refine⟨h1,fun i j hi=>?_⟩
  rcases List.mem_cons.1 hi with hi | hi
  · cases hi
    exact⟨e1,e2,hl⟩
  · exact h2 i j hi
theorem gx : ∀ {l:List Oper},qR l=true→∀ (j:Nat) (o:Oper),l[j]? = some o→∀ cs b,o.op≠.select cs b
 | [],_,j,o,h=>by simp at h
 | x::r,h,j,o,hj=>by
  simp only[qR] at h
  cases j with
  | zero=>
   simp at hj
   subst hj
   intro cs b he
   rw[he] at h
   cases h
  | succ j=>
   refine gx (l:=r) ?_ j o (by simpa using hj)
   split at h
   · cases h
   · exact h
theorem iG : ∀ {es:List Edge} {i:Nat},mI es i=true→∀ e∈es,Region.binds .any e=true→e.on<i
 | [],_,_,_,h,_=>by simp at h
 | x::r,i,h,e,he,hb=>by
  simp only[mI] at h
  cases hx:eJ x with
  | none=>
   rw[hx] at h
   rcases List.mem_cons.1 he with rfl | he
   · rw[gP hx] at hb;cases hb
   · exact iG h e he hb
  | some k=>
   rw[hx] at h
   simp only at h
   split at h
   · rename_i hk
     rcases List.mem_cons.1 he with rfl | he
     · obtain⟨_,rfl⟩:=fP.1 hx
       simpa [Nat.blt_eq] using hk
     · exact iG h e he hb
   · cases h
theorem lU : ∀ {l:List Oper} {k:Nat},gY l k=true→∀ (j:Nat) (o:Oper),l[j]? = some o→∀ e∈o.after.toList,Region.binds .any e=true→e.on<k+j
 | [],_,_,j,o,h=>by simp at h
 | x::r,k,h,j,o,hj=>by
  simp only[gY] at h
  split at h
  · rename_i hx
    cases j with
    | zero=>simp at hj;subst hj;exact fun e he hb=>by simpa using iG hx e he hb
    | succ j=>
     intro e he hb
     have:=lU h j o (by simpa using hj) e he hb
     omega
  · cases h
theorem lQ {l:List Oper} (hb:gY l 0=true) {p:Nat→Bool} (h : ∀ j o,l[j]? = some o→p j=false→¬ ∀ e∈o.after.toList,Region.binds .any e=true→p e.on=true) :
 ∀ j,j<l.length→p j=true:=by
 intro j
 induction j using Nat.strongRecOn with
 | _ j ih=>
  intro hj
  cases hp:p j with
  | true=>rfl
  | false=>
   exact absurd (fun e he hbd=>by
    have:=lU hb j l[j] (List.getElem?_eq_getElem hj) e he hbd
    exact ih e.on (by omega) (by omega)) (h j l[j] (List.getElem?_eq_getElem hj) hp)
section
variable {P:Program} {aT:dy} {w0:World} {R:Nat→Nat→Prop} {av:Nat→Prop}
theorem fJ {L:Array Bool} {i:Nat} (hi:i<L.size):L.getD i true=L.getD i false:=by
 simp[Array.getD,hi]
theorem dV {ops:Array Oper} {o:Oper} (hs : ∀ cs b,o.op≠.select cs b) {a a':Array Value} (h : ∀ t,looks ops.toList t o=true→a'[t]? = a[t]?) :
 execOp (Act.eval ⟨a',[]⟩) o=execOp (Act.eval ⟨a,[]⟩) o∧Region.wanted o (yielded ops a')=Region.wanted o (yielded ops a):=by
 constructor
 · refine execOp_congr o hs fun x hx=>?_
   cases x with
   | tmp t=>
    have:looks ops.toList t o=true:=by
     cases hl:looks ops.toList t o with
     | true=>rfl
     | false=>exact absurd (by simpa using hx) (kI hl).1
    simp only[Act.eval,Array.getD_eq_getD_getElem?,h t this]
   | _=>rfl
 · unfold Region.wanted
   cases hg:o.guard with
   | none=>rfl
   | some jp=>
    obtain⟨j,pol⟩:=jp
    simp only
    have:yielded ops a' j=yielded ops a j:=by
     unfold yielded
     cases hd:(ops[j]?).bind (·.dst) with
     | none=>rfl
     | some t=>
      have:looks ops.toList t o=true:=by
       cases hl:looks ops.toList t o with
       | true=>rfl
       | false=>exact absurd (by rw[Array.getElem?_toList];exact hd) ((kI hl).2 j pol hg)
      simp only[Option.bind_some,h t this]
    rw[this]
def kL (w0:World) (R:Nat→Nat→Prop) (av:Nat→Prop) (bs:List (Nat×Nat)) (cs:List (List Value)) (D:Fx):mW→World→Prop
 | .none,_=>True
 | .box j,w=>Range w (nth (0,0) bs j).1 (nth (0,0) bs j).2 (nth [] cs j)
 | .all,w=>St w0 R av w [] [] D
 | .base,w=>St w0 R av w [] [] ⟨fun _=>True,[]⟩
theorem St.base {w0:World} {R:Nat→Nat→Prop} {av:Nat→Prop} {w:World} {bs:List (Nat×Nat)} {cs:List (List Value)} {D:Fx} (h:St w0 R av w bs cs D):St w0 R av w [] [] ⟨fun _=>True,[]⟩:=
 (St.left (bs:=[]) (cs:=[]) (e:=bs) (f:=cs) (by simpa using h) rfl).imp ⟨List.nil_sublist _,fun _ _=>trivial⟩
theorem St.bare {w0:World} {R:Nat→Nat→Prop} {av:Nat→Prop} {w:World} {bs:List (Nat×Nat)} {cs:List (List Value)} {D:Fx} (h:St w0 R av w bs cs D):St w0 R av w [] [] D:=
 St.left (bs:=[]) (cs:=[]) (e:=bs) (f:=cs) (by simpa using h) rfl
def il (cs:List (List Value)):mW→Prop
 | .box j=>j<cs.length
 | _=>True
theorem St.dep {w:World} {bs:List (Nat×Nat)} {cs:List (List Value)} {D:Fx} (h:St w0 R av w bs cs D) {dep:mW} (hd:il cs dep):kL w0 R av bs cs D dep w:=by
 cases dep with
 | none=>trivial
 | box j=>exact(h.box.get j hd).1
 | all=>exact h.bare
 | base=>exact h.base
structure zY (P:Program) (w0:World) (R:Nat→Nat→Prop) (av:Nat→Prop) (ops:Array Oper) (L:List Bool) (L':Array Bool) (E:List (Nat×mW)) (bs:List (Nat×Nat)) (cs:List (List Value))
 (D:Fx) (a a':Array Value):Prop where
 len:L.length=ops.size
 len':L'.size=ops.size
 sub : ∀ i,L'.getD i false=true→dD L i=true
 closed : ∀ i o,ops[i]? = some o→dD L i=true→cU L o.after.toList=true
 closed' : ∀ k ok,ops[k]? = some ok→L'.getD k false=true→∀ e∈ok.after,Region.binds .any e=true→L'.getD e.on false=true
 size:a'.size=a.size
 agree : ∀ t,(∀ i o,ops[i]? = some o→dD L i=true→L'.getD i false=false→o.dst≠some t)→a'[t]? = a[t]?
 early : ∀ i,dD L i=true→L'.getD i false=false→∃ o d m v,ops[i]? = some o∧o.dst=some d∧(i,m)∈E∧zA ops.toList i d o∧a[d]? = some v∧il cs m∧
  ((Region.wanted o (yielded ops a)=true∧∀ w,kL w0 R av bs cs D m w→(execOp (Act.eval ⟨a,[]⟩) o).run P w = .ok (.value v) w)∨(Region.wanted o (yielded ops a)=false∧v=undef))
theorem lP {ops:Array Oper} {L' L2:Array Bool} (hc : ∀ k ok,ops[k]? = some ok→L'.getD k false=true→∀ e∈ok.after,Region.binds .any e=true→L'.getD e.on false=true) {j:Nat} {o:Oper} (hoj:ops[j]? = some o)
 (hset : ∀ k,L2.getD k false=true↔k=j∨L'.getD k false=true) (hall : ∀ e∈o.after,Region.binds .any e=true→L'.getD e.on false=true) :
 ∀ k ok,ops[k]? = some ok→L2.getD k false=true→∀ e∈ok.after,Region.binds .any e=true→L2.getD e.on false=true:=by
 intro k ok hk hL e he hb
 refine(hset _).2 (.inr ?_)
 rcases(hset k).1 hL with rfl | hL
 · rw[hoj] at hk
   cases hk
   exact hall e he hb
 · exact hc k ok hk hL e he hb
theorem zY.looked {ops:Array Oper} {L:List Bool} {L':Array Bool} {E:List (Nat×mW)} {bs:List (Nat×Nat)} {cs:List (List Value)} {D:Fx} {a a':Array Value}
 (h:zY P w0 R av ops L L' E bs cs D a a') {j:Nat} {o:Oper} (hj:ops[j]? = some o) (hw : ∀ e∈o.after,Region.binds .any e=true→L'.getD e.on false=true) (hun:L'.getD j false=false)
 (t:Nat) (ht:looks ops.toList t o=true):a'[t]? = a[t]?:=by
 refine h.agree t fun i oi hi hL hL' hd=>?_
 obtain⟨o1,d,m,v,g1,g2,g3,g4,g5⟩:=h.early i hL hL'
 rw[hi] at g1
 cases g1
 rw[hd] at g2
 cases g2
 by_cases hij:j=i
 · subst hij
   rw[hj] at hi
   cases hi
   rw[g4.own] at ht
   cases ht
 · have:=g4.looked j o (by rw[Array.getElem?_toList];exact hj) hij ht
   obtain⟨e,he,hb,rfl⟩:=dx.1 this
   have:=hw e (Array.mem_toList_iff.1 he) hb
   rw[hL'] at this
   cases this
theorem nJ {L':Array Bool} {i j:Nat} (hi:i<L'.size):(L'.setIfInBounds i true).getD j false=true↔j=i∨L'.getD j false=true:=by
 by_cases h:i=j
 · subst h;simp[Array.getD,hi]
 · rw[getD_set_ne false h]
   constructor
   · exact .inr
   · rintro(rfl | h')
     · exact absurd rfl h
     · exact h'
theorem qG {a:Array Value} {d:Nat} {v:Value} (h:d<a.size):(a.setIfInBounds d v)[d]? = some v:=by
 rw[Array.getElem?_setIfInBounds_self_of_lt h]
theorem mb {a:Array Value} {d t:Nat} {v:Value} (h:d≠t):(a.setIfInBounds d v)[t]? = a[t]?:=Array.getElem?_setIfInBounds_ne h
theorem we {o:Oper} {a a':Array Value} {w:World} {next next':Act→World→Prop} {Q:Exit→Act→World→Prop} (he:execOp (Act.eval ⟨a',[]⟩) o=execOp (Act.eval ⟨a,[]⟩) o)
 (hd : ∀ act w,next act w→act.defers = []) (hn : ∀ v w',next (Act.put ⟨a,[]⟩ o.dst v) w'→next' (Act.put ⟨a',[]⟩ o.dst v) w')
 (h:o.wp P ⟨a,[]⟩ w next (fun _ _ _=>False)):o.wp P ⟨a',[]⟩ w next' Q:=by
 unfold Oper.wp at h ⊢
 rw[he]
 generalize (execOp (Act.eval ⟨a,[]⟩) o).run P w=r at h ⊢
 cases r with
 | ok n w'=>
  cases n<;>simp only[Oper.upon] at h ⊢
  case value v=>exact hn _ _ h
  case skip=>exact hn _ _ h
  case defer d=>
   have:=hd _ _ h
   rw[put_defers] at this
   cases this
  case enter f args=>
   refine Calls.mono h fun e w'' he=>?_
   cases e with
   | returned v=>exact hn _ _ he
   | panicked c=>exact he.elim
   | outgrown=>obtain⟨_,_,hf⟩:=he;exact hf.elim
  case row row args=>exact Rows.mono h fun v w'' he=>hn _ _ he
 | halt x w'=>cases x<;>simp only[Oper.upon] at h
theorem kD {ops:Array Oper} {o:Oper} {tm:List SV} {bs:List (Nat×Nat)} {a:Array Value} (hf:aY bs tm a) {Y N:Prop} (h:sS ops.toList o tm Y N) :
 (Region.wanted o (yielded ops a)=true∧Y)∨(Region.wanted o (yielded ops a)=false∧N):=by
 unfold sS at h
 split at h
 · rename_i hg
   exact .inl ⟨by unfold Region.wanted;rw[hg],h⟩
 · rename_i j pol hg
   obtain⟨hjl,h⟩:=bg o h
   have hj:ops.toList[j]? = some (nth o ops.toList j):=by rw[bq,List.getElem?_eq_getElem hjl];rfl
   generalize nth o ops.toList j=oj at h hj
   split at h
   · exact h.elim
   · rename_i t ht
     obtain⟨htl,h⟩:=bg SV.any h
     have hok:=hf.ok t
     have hta:t<a.size:=by rw[← hf.len];exact htl
     split at h
     · rename_i hs
       rw[hs] at hok
       have hw:Region.wanted o (yielded ops a)=(some true == some pol):=by rw[ew hg,ja hj ht (iX hta hok)]
       split at h
       · exact .inl ⟨by rw[hw];rfl,h⟩
       · exact .inr ⟨by rw[hw];rfl,h⟩
     · rename_i hs
       rw[hs] at hok
       have hw:Region.wanted o (yielded ops a)=(some false == some pol):=by rw[ew hg,ja hj ht (iX hta hok)]
       split at h
       · exact .inr ⟨by rw[hw];rfl,h⟩
       · exact .inl ⟨by rw[hw];rfl,h⟩
     · rename_i x hs
       rw[hs] at hok
       exact .inr ⟨by rw[ew hg,nt hj ht (iX hta hok)];rfl,h⟩
     · exact h.elim
theorem fq {ops:List Oper} {i:Nat} {o:Oper} {tm:List SV} {bs:List (Nat×Nat)} {a:Array Value} (hf:aY bs tm a) {K:List SV→Prop} (h:fQ ops i o tm K) :
 ∃ tm',aY bs tm' a∧K tm':=by
 unfold fQ at h
 split at h
 · rename_i d _ _
   obtain⟨_,h⟩:=bg SV.any h
   have hok:=hf.ok d
   split at h
   · rename_i c hs
     rw[hs] at hok
     cases c
     · obtain⟨_,h⟩:=cD h
       exact⟨_,hf.same hok,h⟩
     · obtain⟨_,h⟩:=cD h
       exact⟨_,hf.same hok,h⟩
   · exact⟨tm,hf,h⟩
 · exact⟨tm,hf,h⟩
theorem tW {bs:List (Nat×Nat)} {cs:List (List Value)} {t:TypeId} {x:TI} (hx:gg P t=some x) {i o:Nat} {K:SV→Prop}
 (h:nN x cs i o K):i<cs.length∧∃ v,(∀ w,Range w (nth (0,0) bs i).1 (nth (0,0) bs i).2 (nth [] cs i)→(Instr.loadAt t (ptr bs i o)).run P w = .ok v w)∧K (.v v):=by
 obtain⟨hi,h⟩:=bg [] h
 have hat:Instr.loadAt t (ptr bs i o)=loadVar t ⟨(nth (0,0) bs i).1,(nth (0,0) bs i).2+o,none⟩:=rfl
 refine⟨hi,?_⟩
 split at h
 · rename_i ha
   obtain⟨h1,h2⟩:=ea h
   refine⟨_,fun w hr=>?_,h2⟩
   rw[hat]
   refine ed hx ha _ (by simp;omega) (fun j hj=>?_)
   simp at hj
   rw[Nat.add_assoc,hr.cell (by omega),List.getElem?_take,if_pos (by omega),List.getElem?_drop]
 · rename_i ha
   obtain⟨h1,h2⟩:=bg (.tuple #[]) h
   refine⟨_,fun w hr=>?_,h2⟩
   rw[hat]
   refine dp hx ha ?_
   rw[hr.cell h1,bq (.tuple #[]) (nth [] cs i) o,List.getElem?_eq_getElem h1]
   rfl
theorem qH (hT:bt P aT) {tm:List SV} {bs:List (Nat×Nat)} {cs:List (List Value)} {D:Fx} {a:Array Value} (hf:aY bs tm a) {o:Oper}
 {K:SV→mW→Prop} (h:wj P aT w0 R av o tm bs cs D K) :
 ∃ v s dep,(∀ w,kL w0 R av bs cs D dep w→(execOp (Act.eval ⟨a,[]⟩) o).run P w = .ok (.value v) w)∧il cs dep∧cK bs s v∧K s dep:=by
 have hg:=uN.nil tm
 obtain⟨dst,op,ty,pos,after,guard⟩:=o
 unfold wj at h
 simp only at h
 split at h
 · rename_i t x
   obtain⟨sx,hsx,h⟩:=bw hf hg h
   split at h
   · rename_i j s
     split at h
     · rename_i ti hl
       obtain⟨hj,v,h1,h2⟩:=tW (bs:=bs) (hT _ _ hl) h
       refine⟨v,.v v,.box j,fun w hw=>?_,hj,rfl,h2⟩
       obtain⟨hsx,_⟩:=hsx
       simp only[execOp]
       rw[hsx]
       exact bA (h1 w hw)
     · exact h.elim
   · rename_i v
     have hsx':Act.eval ⟨a,[]⟩ x=v:=hsx
     obtain⟨u,h1,h2⟩:=(bd _ _ _ _).1 h
     refine⟨u,.v u,.all,fun w hw=>?_,trivial,rfl,h2⟩
     simp only[execOp,hsx']
     exact bA (h1 w hw)
   · exact h.elim
 · rename_i op' hnl
   rcases gF (o:=⟨dst,op,ty,pos,after,guard⟩) hT hf hg h with h | ⟨v,s,h1,h2,h3⟩
   · split at h
     · rename_i t x i _
       obtain⟨v,h1,h2⟩:=(bd _ _ _ _).1 (a_ hf hg (a_ hf hg h))
       exact⟨v,.v v,.base,fun w hw=>bA (h1 w hw),trivial,rfl,h2⟩
     · rename_i t x i _
       obtain⟨v,h1,h2⟩:=(bd _ _ _ _).1 (a_ hf hg (a_ hf hg h))
       exact⟨v,.v v,.base,fun w hw=>bA (h1 w hw),trivial,rfl,h2⟩
     · rename_i t x lo hi mx _
       obtain⟨v,h1,h2⟩:=(bd _ _ _ _).1 (ev hf hg (ev hf hg (ev hf hg (a_ hf hg h))))
       exact⟨v,.v v,.base,fun w hw=>bA (h1 w hw),trivial,rfl,h2⟩
     · rename_i s d x _
       obtain⟨v,h1,h2⟩:=(bd _ _ _ _).1 (a_ hf hg h)
       exact⟨v,.v v,.all,fun w hw=>bA (h1 w hw),trivial,rfl,h2⟩
     · rename_i op t x y t' _
       obtain⟨v,h1,h2⟩:=(bd _ _ _ _).1 (a_ hf hg (a_ hf hg h))
       exact⟨v,.v v,.base,fun w hw=>bA (h1 w hw),trivial,rfl,h2⟩
     · rename_i t ps _
       obtain⟨v,h1,h2⟩:=(bd _ _ _ _).1 (dO hf hg h)
       refine⟨v,.v v,.base,fun w hw=>?_,trivial,rfl,h2⟩
       have hr:=h1 w hw
       simp only[execOp,List.map_toArray]
       exact bA hr
     · rename_i b xs ts _
       have h:=dv hf hg h
       split at h
       · rename_i mm hmm
         obtain⟨v,h1,h2⟩:=(bd _ _ _ _).1 h
         refine⟨v,.v v,.base,fun w hw=>?_,trivial,rfl,h2⟩
         have hr:=h1 w hw
         rw[eo]
         cases b<;>simp only[xo] at hmm<;>first | (cases hmm;exact bA hr) | (cases hmm)
       · exact h.elim
     · exact h.elim
   · exact⟨v,s,.none,fun w _=>h1 w fun⟨t,x,he⟩=>absurd he (hnl t x),trivial,h2,h3⟩
end
end Go.Sx
namespace Go.Sx
set_option linter.unusedVariables false
section
variable {P:Program} {aT:dy} {w0:World} {R:Nat→Nat→Prop} {av:Nat→Prop}
theorem pj {E:List (Nat×mW)} {bs bs':List (Nat×Nat)} {cs cs':List (List Value)} {D D':Fx} {K:Prop} (h:vv E bs cs D bs' cs' D' K) :
 K∧∀ i dep,(i,dep)∈E→(il cs dep→il cs' dep)∧∀ w,il cs dep→kL w0 R av bs' cs' D' dep w→kL w0 R av bs cs D dep w:=by
 unfold vv at h
 split at h
 · rename_i hm
   obtain⟨h1,h2⟩:=dQ h.rest
   refine⟨h1,fun i dep hi=>?_⟩
   cases dep with
   | none=>exact⟨fun _=>trivial,fun _ _ _=>trivial⟩
   | base=>exact⟨fun _=>trivial,fun _ _ h=>h⟩
   | all=>
    refine⟨fun _=>trivial,fun w _ hst=>?_⟩
    have hst:St w0 R av w [] [] D':=hst
    exact hst.bF h.data
   | box j=>
    obtain⟨e1,e2,e3⟩:=h2 i j hi
    exact⟨fun _=>e3,fun w _ hw=>by
     show Range w _ _ _
     rw[← e1,← e2]
     exact hw⟩
 · rename_i hm
   obtain⟨h1,h2⟩:=dQ h
   refine⟨h1,fun i dep hi=>?_⟩
   cases dep with
   | none=>exact⟨fun _=>trivial,fun _ _ _=>trivial⟩
   | base=>exact⟨fun _=>trivial,fun _ _ h=>h⟩
   | all=>rw[fY hi] at hm;cases hm
   | box j=>
    obtain⟨e1,e2,e3⟩:=h2 i j hi
    exact⟨fun _=>e3,fun w _ hw=>by
     show Range w _ _ _
     rw[← e1,← e2]
     exact hw⟩
def left (L':Array Bool):Nat:=(L'.toList.filter fun b=>!b).length
theorem lY {L':Array Bool} {i:Nat} (hi:i<L'.size) (h:L'.getD i false=false):left (L'.setIfInBounds i true)+1=left L':=by
 unfold left
 rw[Array.toList_setIfInBounds]
 have hi':i<L'.toList.length:=by simpa using hi
 have hv:L'.toList[i]=false:=by
  have:L'[i]=false:=by simpa [Array.getD,hi] using h
  simpa using this
 generalize L'.toList=l at hi' hv
 clear h hi
 induction l generalizing i with
 | nil=>simp at hi'
 | cons x xs ih=>
  cases i with
  | zero=>
   simp at hv
   subst hv
   simp
  | succ i=>
   have:=ih (i:=i) (by simpa using hi') (by simpa using hv)
   cases x<;>simp<;>omega
theorem rq (hT:bt P aT) {ops:Array Oper} {Q:Exit→Act→World→Prop} (hns:qR ops.toList=true) (hbk:gY ops.toList 0=true) {K:KT} (hQ : ∀ act w,ft w0 R av K act w→Q .normal act w) :
 ∀ (s n m:Nat) (L:List Bool) (L':Array Bool) (E:List (Nat×mW)) (tm:List SV) (bs:List (Nat×Nat)) (cs:List (List Value)) (D:Fx) (a a':Array Value) (w:World),
  n+m≤s→left L'≤m→oq P aT w0 R av ops.toList n L E tm bs cs D K→aY bs tm a→St w0 R av w bs cs D→zY P w0 R av ops L L' E bs cs D a a'→wpAny P .any ops Q m L' ⟨a',[]⟩ w:=by
 intro s
 induction s with
 | zero=>
  intro n m L L' E tm bs cs D a a' w hs hm h hf hst hsim
  obtain rfl:n=0:=by omega
  exact h.elim
 | succ s ih=>
  intro n m L L' E tm bs cs D a a' w hs hm h hf hst hsim
  cases n with
  | zero=>exact h.elim
  | succ n=>
   have hX:=h
   simp only[oq] at h
   cases hq:ku aT ops.toList tm L ops.toList 0 with
   | some im=>
    obtain⟨i,mm⟩:=im
    rw[hq] at h
    simp only at h
    obtain⟨hil,h⟩:=bg default h
    obtain⟨k,o,d,hk,hik,hun,hwt,hrd,hdst,hfree⟩:=kG hq
    rw[Nat.zero_add] at hik
    subst hik
    have hnth:nth default ops.toList i=o:=by rw[bq,hk];rfl
    rw[hnth] at h
    have hops:ops[i]? = some o:=by rw[← Array.getElem?_toList];exact hk
    have hF:=xT (by simpa using hil) hfree
    have hiL:i<L.length:=by rw[hsim.len];simpa using hil
    have hL':L'.getD i false=false:=by
     cases hc:L'.getD i false with
     | false=>rfl
     | true=>rw[hsim.sub i hc] at hun;cases hun
    have key : ∀ (v:Value) (sv:SV) (dep:mW),cK bs sv v→il cs dep→(Region.wanted o (yielded ops a)=true∧(∀ w,kL w0 R av bs cs D dep w→(execOp (Act.eval ⟨a,[]⟩) o).run P w = .ok (.value v) w)∨(Region.wanted o (yielded ops a)=false∧v=undef))→
     ∀ tm',aY bs tm' (a.setIfInBounds d v)→d<a.size→oq P aT w0 R av ops.toList n (iV L i) ((i,dep)::E) tm' bs cs D K→wpAny P .any ops Q m L' ⟨a',[]⟩ w:=by
     intro v sv dep hsv hdi hy tm' hf' hda hx
     refine ih n m (iV L i) L' ((i,dep)::E) tm' bs cs D (a.setIfInBounds d v) a' w (by omega) hm hx hf' hst ?_
     have hlook : ∀ (k:Nat) (ok:Oper),ops[k]? = some ok→(k=i∨dD L k=true)→looks ops.toList d ok=false:=by
      intro k ok hk' hor
      cases hl:looks ops.toList d ok with
      | false=>rfl
      | true=>
       rcases hor with rfl | hor
       · rw[hops] at hk';cases hk';rw[hF.own] at hl;cases hl
       · have hki:k≠i:=fun e=>by subst e;rw[hun] at hor;cases hor
         have:=hF.looked k ok (by rw[Array.getElem?_toList];exact hk') hki hl
         obtain⟨e,he,hb,rfl⟩:=dx.1 this
         have:=cg.1 (hsim.closed k ok hk' hor) e he hb
         rw[hun] at this
         cases this
     have hsame : ∀ (k:Nat) (ok:Oper),ops[k]? = some ok→(k=i∨dD L k=true)→
      execOp (Act.eval ⟨a.setIfInBounds d v,[]⟩) ok=execOp (Act.eval ⟨a,[]⟩) ok∧Region.wanted ok (yielded ops (a.setIfInBounds d v))=Region.wanted ok (yielded ops a):=by
      intro k ok hk' hor
      refine dV (gx hns k ok (by rw[Array.getElem?_toList];exact hk')) fun t ht=>?_
      refine mb fun e=>?_
      subst e
      rw[hlook k ok hk' hor] at ht
      cases ht
     refine⟨by rw[lB];simp[hsim.len],hsim.len',fun k hk'=>(cH hiL).2 (.inr (hsim.sub k hk')),?_,hsim.closed',by simp[hsim.size],?_,?_⟩
     · intro k ok hk' hkL
       refine cg.2 fun e he hb=>(cH hiL).2 (.inr ?_)
       rcases(cH hiL).1 hkL with rfl | hkL
       · rw[hops] at hk';cases hk'
         exact cg.1 hwt e he hb
       · exact cg.1 (hsim.closed k ok hk' hkL) e he hb
     · intro t ht
       have htd:d≠t:=fun e=>ht i o hops ((cH hiL).2 (.inl rfl)) hL' (by rw[hdst,e])
       rw[mb htd]
       exact hsim.agree t fun k ok hk' hkL hkL'=>ht k ok hk' ((cH hiL).2 (.inr hkL)) hkL'
     · intro k hkL1 hkL'
       rcases(cH hiL).1 hkL1 with rfl | hkL
       · refine⟨o,d,dep,v,hops,hdst,List.mem_cons_self ..,hF,qG hda,hdi,?_⟩
         obtain⟨e1,e2⟩:=hsame k o hops (.inl rfl)
         rw[e1,e2]
         rcases hy with⟨y1,y2⟩ | y
         · exact .inl ⟨y1,y2⟩
         · exact .inr y
       · obtain⟨o1,d1,m1,v1,g1,g2,g3,g4,g5,gd,g6⟩:=hsim.early k hkL hkL'
         have hki:k≠i:=fun e=>by subst e;rw[hun] at hkL;cases hkL
         have hdd:d≠d1:=fun e=>by
          subst e
          exact hF.alone k o1 (by rw[Array.getElem?_toList];exact g1) hki g2
         refine⟨o1,d1,m1,v1,g1,g2,List.mem_cons_of_mem _ g3,g4,by rw[mb hdd];exact g5,gd,?_⟩
         obtain⟨e1,e2⟩:=hsame k o1 g1 (.inr hkL)
         rw[e1,e2]
         exact g6
    rcases kD hf h with⟨hw,h⟩ | ⟨hw,h⟩
    · obtain⟨v,sv,dep,h1,hdi,h2,h3⟩:=qH hT hf h
      rw[hdst] at h3
      obtain⟨hdl,h3⟩:=cD h3
      obtain⟨tm',h4,h5⟩:=fq (hf.set d h2) h3
      exact key v sv dep h2 hdi (.inl ⟨hw,h1⟩) tm' h4 (by rw[← hf.len];exact hdl) h5
    · rw[hdst] at h
      obtain⟨hdl,h⟩:=cD h
      exact key undef (.v undef) .none rfl trivial (.inr ⟨hw,rfl⟩) _ (hf.set d (s:=.v undef) rfl) (by rw[← hf.len];exact hdl) h
   | none=>
    rw[hq] at h
    simp only at h
    have hearly : ∀ (m' j:Nat),m=m'+1→j∈Region.ready .any ops L'→dD L j=true→wpOp P ops Q j (wpAny P .any ops Q m' (L'.setIfInBounds j true)) ⟨a',[]⟩ w:=by
     intro m' j hm' hj hjL
     obtain⟨hj0,o,hoj,hall⟩:=mem_ready.1 hj
     have hjs:j<ops.size:=bu hoj
     have hjL':L'.getD j false=false:=by rw[← fJ (by rw[hsim.len'];exact hjs)];exact hj0
     obtain⟨o1,d,mm,v,g1,g2,g3,g4,g5,gd,g6⟩:=hsim.early j hjL hjL'
     rw[hoj] at g1
     cases g1
     obtain⟨e1,e2⟩:=dV (gx hns j o (by rw[Array.getElem?_toList];exact hoj)) (hsim.looked hoj hall hjL')
     have hcont:wpAny P .any ops Q m' (L'.setIfInBounds j true) (Act.put ⟨a',[]⟩ o.dst v) w:=by
      rw[g2]
      have hls:=lY (by rw[hsim.len'];exact hjs) hjL'
      refine ih (n+1) m' L (L'.setIfInBounds j true) E tm bs cs D a (a'.setIfInBounds d v) w (by omega) (by omega) hX hf hst ?_
      have hset : ∀ k,(L'.setIfInBounds j true).getD k false=true↔k=j∨L'.getD k false=true:=fun k=>nJ (by rw[hsim.len'];exact hjs)
      have hnot : ∀ k,(L'.setIfInBounds j true).getD k false=false→k≠j∧L'.getD k false=false:=fun k hk=>by
       refine⟨fun e=>?_,?_⟩
       · rw[(hset k).2 (.inl e)] at hk;cases hk
       · cases hc:L'.getD k false with
         | false=>rfl
         | true=>rw[(hset k).2 (.inr hc)] at hk;cases hk
      refine⟨hsim.len,by simp[hsim.len'],fun k hk=>?_,hsim.closed,lP hsim.closed' hoj hset hall,by simp[hsim.size],fun t ht=>?_,fun k hkL hkL'=>?_⟩
      · rcases(hset k).1 hk with rfl | hk
        · exact hjL
        · exact hsim.sub k hk
      · by_cases hdt:d=t
        · subst hdt
          rw[qG (by rw[hsim.size];exact bu g5),g5]
        · rw[mb hdt]
          refine hsim.agree t fun k ok hk hkL hkL'=>?_
          by_cases hkj:k=j
          · subst hkj
            rw[hoj] at hk
            cases hk
            rw[g2]
            simpa using hdt
          · refine ht k ok hk hkL ?_
            cases hc:(L'.setIfInBounds j true).getD k false with
            | false=>rfl
            | true=>
             rcases(hset k).1 hc with hc | hc
             · exact absurd hc hkj
             · rw[hkL'] at hc;cases hc
      · exact hsim.early k hkL (hnot k hkL').2
     unfold wpOp
     simp only[hoj]
     rcases g6 with⟨y1,y2⟩ | ⟨y1,rfl⟩
     · have hw:Region.wanted o (yielded ops a')=true:=by rw[e2];exact y1
       simp only[hw,if_true]
       exact .inl (ec (by rw[e1];exact y2 w (hst.dep gd)) hcont)
     · have hw:Region.wanted o (yielded ops a')=false:=by rw[e2];exact y1
       simp only[hw,Bool.false_eq_true,if_false]
       exact hcont
    have hlisted:Region.ready .any ops L' = []→∀ j,j<ops.size→L'.getD j false=true:=by
     intro hr j hj
     refine lQ (l:=ops.toList) hbk (p:=fun j=>L'.getD j false) (fun k ok hk hpk hall=>?_) j (by simpa using hj)
     have hks:k<ops.size:=bu (by rw[← Array.getElem?_toList];exact hk)
     have:k∈Region.ready .any ops L':=mem_ready.2 ⟨by rw[fJ (by rw[hsim.len'];exact hks)];exact hpk,ok,by rw[← Array.getElem?_toList];exact hk,
      fun e he hb=>hall e (Array.mem_toList_iff.2 he) hb⟩
     rw[hr] at this
     cases this
    have hleft:left L'=0→Region.ready .any ops L' = []:=by
     intro h0
     cases hr:Region.ready .any ops L' with
     | nil=>rfl
     | cons j r=>
      have hj:j∈Region.ready .any ops L':=by rw[hr];exact List.mem_cons_self ..
      obtain⟨hj0,o,hoj,hall⟩:=mem_ready.1 hj
      have hjs:j<ops.size:=bu hoj
      have:=lY (L':=L') (i:=j) (by rw[hsim.len'];exact hjs) (by rw[← fJ (by rw[hsim.len'];exact hjs)];exact hj0)
      omega
    cases hrl:fk L ops.toList 0 with
    | nil=>
     rw[hrl] at h
     simp only at h
     have hLall : ∀ j,j<ops.size→dD L j=true:=by
      intro j hj
      refine lQ (l:=ops.toList) hbk (p:=fun j=>dD L j) (fun k ok hk hpk hall=>?_) j (by simpa using hj)
      have:k∈fk L ops.toList 0:=fX.2 ⟨k,ok,hk,by omega,hpk,cg.2 hall⟩
      rw[hrl] at this
      cases this
     have hdone:Region.ready .any ops L' = []→Q .normal ⟨a',[]⟩ w:=by
      intro hr
      have:a'=a:=by
       refine Array.ext_getElem? fun t=>hsim.agree t fun k ok hk _ hkL'=>?_
       rw[hlisted hr k (bu hk)] at hkL'
       cases hkL'
      subst this
      exact hQ _ _ ⟨rfl,tm,bs,cs,D,hf,hst,h⟩
     cases m with
     | zero=>exact⟨hleft (by omega),hdone (hleft (by omega))⟩
     | succ m=>
      refine⟨hdone,fun j hj=>hearly m j rfl hj (hLall j ?_)⟩
      obtain⟨_,o,hoj,_⟩:=mem_ready.1 hj
      exact bu hoj
    | cons j0 r0=>
     rw[hrl] at h
     simp only at h
     have hj0:j0∈fk L ops.toList 0:=by rw[hrl];exact List.mem_cons_self ..
     have hno:Region.ready .any ops L'≠[]:=by
      intro hr
      obtain⟨k,ok,hk,hjk,hun,_⟩:=fX.1 hj0
      rw[Nat.zero_add] at hjk
      subst hjk
      have hks:j0<ops.size:=bu (by rw[← Array.getElem?_toList];exact hk)
      rw[hsim.sub j0 (hlisted hr j0 hks)] at hun
      cases hun
     cases m with
     | zero=>exact absurd (hleft (by omega)) hno
     | succ m=>
      refine⟨fun hr=>absurd hr hno,fun j hj=>?_⟩
      cases hjL:dD L j with
      | true=>exact hearly m j rfl hj hjL
      | false=>
       obtain⟨hjt,o,hoj,hall⟩:=mem_ready.1 hj
       have hjs:j<ops.size:=bu hoj
       have hojl:ops.toList[j]? = some o:=by rw[Array.getElem?_toList];exact hoj
       have hjL':L'.getD j false=false:=by rw[← fJ (by rw[hsim.len'];exact hjs)];exact hjt
       have hwL:cU L o.after.toList=true:=cg.2 fun e he hb=>hsim.sub _ (hall e (Array.mem_toList_iff.1 he) hb)
       have hjr:j∈j0::r0:=by rw[← hrl];exact fX.2 ⟨j,o,hojl,by omega,hjL,hwL⟩
       have hS:=qW h j hjr
       obtain⟨_,hS⟩:=bg o hS
       have hnth:nth o ops.toList j=o:=by rw[bq,hojl];rfl
       rw[hnth] at hS
       obtain⟨e1,e2⟩:=dV (gx hns j o hojl) (hsim.looked hoj hall hjL')
       have hiL:j<L.length:=by rw[hsim.len];exact hjs
       have hls:=lY (L':=L') (i:=j) (by rw[hsim.len'];exact hjs) hjL'
       have hset : ∀ k,(L'.setIfInBounds j true).getD k false=true↔k=j∨L'.getD k false=true:=fun k=>nJ (by rw[hsim.len'];exact hjs)
       have key : ∀ (v:Value) (w':World) (tm':List SV) (bs':List (Nat×Nat)) (cs':List (List Value)) (D':Fx),aY bs' tm' (Act.put ⟨a,[]⟩ o.dst v).tmps→St w0 R av w' bs' cs' D'→
        (∀ i dep,(i,dep)∈ig ops.toList o.after.toList E→(il cs dep→il cs' dep)∧∀ w,il cs dep→kL w0 R av bs' cs' D' dep w→kL w0 R av bs cs D dep w)→
        oq P aT w0 R av ops.toList n (iV L j) (ig ops.toList o.after.toList E) tm' bs' cs' D' K→
        wpAny P .any ops Q m (L'.setIfInBounds j true) ⟨(Act.put ⟨a',[]⟩ o.dst v).tmps,[]⟩ w':=by
        intro v w' tm' bs' cs' D' hf' hst' hheld hx
        refine ih n m (iV L j) (L'.setIfInBounds j true) _ tm' bs' cs' D' _ _ w' (by omega) (by omega) hx hf' hst' ?_
        have hput : ∀ (b:Array Value) t,o.dst≠some t→(Act.put ⟨b,[]⟩ o.dst v).tmps[t]? = b[t]?:=by
         intro b t ht
         cases hd:o.dst with
         | none=>rfl
         | some d=>exact mb (fun e=>ht (by rw[hd,e]))
        have hnot : ∀ k,(L'.setIfInBounds j true).getD k false=false→k≠j∧L'.getD k false=false:=fun k hk=>by
         refine⟨fun e=>?_,?_⟩
         · rw[(hset k).2 (.inl e)] at hk;cases hk
         · cases hc:L'.getD k false with
           | false=>rfl
           | true=>rw[(hset k).2 (.inr hc)] at hk;cases hk
        have hsz : ∀ b:Array Value,(Act.put ⟨b,[]⟩ o.dst v).tmps.size=b.size:=by
         intro b
         cases o.dst<;>simp[Act.put]
        refine⟨by rw[lB];simp[hsim.len],by simp[hsim.len'],fun k hk=>?_,fun k ok hk hkL=>?_,lP hsim.closed' hoj hset hall,by rw[hsz,hsz,hsim.size],fun t ht=>?_,fun k hkL hkL'=>?_⟩
        · rcases(hset k).1 hk with rfl | hk
          · exact(cH hiL).2 (.inl rfl)
          · exact(cH hiL).2 (.inr (hsim.sub k hk))
        · refine cg.2 fun e he hb=>(cH hiL).2 (.inr ?_)
          rcases(cH hiL).1 hkL with rfl | hkL
          · rw[hoj] at hk;cases hk
            exact cg.1 hwL e he hb
          · exact cg.1 (hsim.closed k ok hk hkL) e he hb
        · by_cases hdt:o.dst=some t
          · rw[hdt]
            show(a'.setIfInBounds t v)[t]? = (a.setIfInBounds t v)[t]?
            rw[Array.getElem?_setIfInBounds,Array.getElem?_setIfInBounds,hsim.size]
            simp
          · rw[hput a' t hdt,hput a t hdt]
            refine hsim.agree t fun k ok hk hkL hkL'=>?_
            have hkj:k≠j:=fun e=>by subst e;rw[hjL] at hkL;cases hkL
            refine ht k ok hk ((cH hiL).2 (.inr hkL)) ?_
            cases hc:(L'.setIfInBounds j true).getD k false with
            | false=>rfl
            | true=>
             rcases(hset k).1 hc with hc | hc
             · exact absurd hc hkj
             · rw[hkL'] at hc;cases hc
        · obtain⟨hkj,hkL'⟩:=hnot k hkL'
          have hkL2:dD L k=true:=((cH hiL).1 hkL).resolve_left hkj
          obtain⟨o1,d1,m1,v1,g1,g2,g3,g4,g5,gd,g6⟩:=hsim.early k hkL2 hkL'
          have hdd:o.dst≠some d1:=g4.alone j o hojl (Ne.symm hkj)
          have hin:(k,m1)∈ig ops.toList o.after.toList E:=by
           refine nL g3 ?_
           cases hc:jP ops.toList 3 k o.after.toList with
           | false=>rfl
           | true=>
            rw[kO hsim.closed' 3 (fun e he hb=>hall e (Array.mem_toList_iff.1 he) hb) hc] at hkL'
            cases hkL'
          refine⟨o1,d1,m1,v1,g1,g2,hin,g4,by rw[hput a d1 hdd];exact g5,(hheld k m1 hin).1 gd,?_⟩
          obtain⟨f1,f2⟩:=dV (ops:=ops) (a:=a) (a':=(Act.put ⟨a,[]⟩ o.dst v).tmps) (gx hns k o1 (by rw[Array.getElem?_toList];exact g1)) fun t ht=>by
           refine hput a t fun hd=>?_
           have:=g4.looking j o t hojl (Ne.symm hkj) hd ht
           obtain⟨e,he,hb,rfl⟩:=dx.1 this
           have:=cg.1 (hsim.closed k o1 g1 hkL2) e he hb
           rw[hjL] at this
           cases this
          rw[f1,f2]
          rcases g6 with⟨y1,y2⟩ | y
          · exact .inl ⟨y1,fun w hw=>y2 w ((hheld k m1 hin).2 w gd hw)⟩
          · exact .inr y
       unfold wpOp
       simp only[hoj]
       rcases kD hf hS with⟨hw,hS⟩ | ⟨hw,hS⟩
       · have hw':Region.wanted o (yielded ops a')=true:=by rw[e2];exact hw
         simp only[hw',if_true]
         refine .inl (we e1 (fun act w h=>h.1) ?_ (jY hT hf hst hS _))
         rintro v w' ⟨hd,tm',bs',cs',D',h1,h2,h3⟩
         obtain⟨h3,h4⟩:=pj (w0:=w0) (R:=R) (av:=av) h3
         obtain⟨tm2,h5,h6⟩:=fq h1 h3
         have:=key v w' tm2 bs' cs' D' h5 h2 h4 h6
         rwa [← eW (put_defers _ _ _)] at this
       · have hw':Region.wanted o (yielded ops a')=false:=by rw[e2];exact hw
         simp only[hw',Bool.false_eq_true,if_false]
         obtain⟨tm',h1,h2⟩:=hf.put o.dst (s:=.v undef) (y:=undef) rfl hS
         have:=key undef w tm' bs cs D h1 hst (fun _ _ _=>⟨fun h=>h,fun w _ h=>h⟩) h2
         rwa [← eW (put_defers _ _ _)] at this
def pa:List Oper→(List Bool→Prop)→Prop
 | [],K=>K []
 | _::r,K=>pa r fun l=>K (false::l)
theorem kE : ∀ {l:List Oper} {K:List Bool→Prop},pa l K→K (List.replicate l.length false)
 | [],_,h=>h
 | _::r,K,h=>kE (l:=r) h
theorem az.draw (hT:bt P aT) (hm:P.follows .mixedOrders=true) {id:Nat} {l:List Oper} {tm:List SV} {bs:List (Nat×Nat)} {cs:List (List Value)} {D:Fx} {K:Exit→KT} (hns:qR l=true)
 (hbk:gY l 0=true) (h:pa l fun L=>oq P aT w0 R av l 1000 L [] tm bs cs D (K .normal)):az P w0 R av (.region id ⟨l⟩ true) tm bs cs D K:=by
 have h:=kE h
 refine bI.2 fun a w hf hst=>wp_region_any hm ?_
 have hst':St w0 R av { w with drawn:=w.drawn+1 } bs cs D:=hst.nM ⟨rfl,rfl,rfl,Nat.le_refl _,fun b o ho=>⟨o,ho,.refl _ _⟩⟩
 have hnB : ∀ i,dD (List.replicate l.length false) i=false:=fun i=>by
  rw[lH,List.getElem?_replicate]
  split<;>rfl
 refine rq hT (ops:=⟨l⟩) hns hbk (K:=K .normal) (fun act w h=>h) _ 1000 _ (List.replicate l.length false) _ [] tm bs cs D a a _ (Nat.le_refl _) ?_ h hf hst' ?_
 · unfold left
   simp
 · refine⟨by simp,by simp,fun i hi=>?_,fun i o _ hi=>?_,fun i o _ hi=>?_,rfl,fun _ _=>rfl,fun i hi=>?_⟩
   · simp[Array.getD] at hi
   · rw[hnB] at hi;cases hi
   · simp[Array.getD] at hi
   · rw[hnB] at hi;cases hi
theorem ur.same : ∀ {bs:List (Nat×Nat)} {cs:List (List Value)},bs.length=cs.length→ur bs cs bs cs
 | [],[],_=>trivial
 | _::_,_::_,h=>⟨⟨rfl,rfl⟩,ur.same (by simpa using h)⟩
 | [],_::_,h=>by simp at h
 | _::_,[],h=>by simp at h
theorem ao.left (F F':Fx):ao (F.and F') F:=.of_le ⟨List.sublist_append_left _ _,fun _ h=>h.1⟩
theorem an.call {bs bs':List (Nat×Nat)} {cs cs':List (List Value)} {F F':Fx} {K:Prop} (hl:0=0) (h:K):an bs cs F bs' cs' (F.and F') K:=⟨ao.left _ _,h⟩
theorem an.same {bs bs':List (Nat×Nat)} {cs cs':List (List Value)} {F:Fx} {K:Prop} (hl:0=0) (h:K):an bs cs F bs' cs' F K:=⟨ao.refl _,h⟩
theorem an.row {bs bs':List (Nat×Nat)} {cs cs':List (List Value)} {F:Fx} {rs:List (Nat×Row)} {K:Prop} (hl:0=0) (h:K):an bs cs F bs' cs' ⟨F.D,F.rs++rs⟩ K:=
 ⟨.of_le ⟨List.sublist_append_left _ _,fun _ h=>h⟩,h⟩
end
end Go.Sx
