/- Parts of the proof: SxQ, SxR, SxS, SxT, SxU, SxV, SxW, SxX, SxY. -/
import Derived.Test.YtlnhdpjnlffaoaaGreatDoorQA
import Derived.Laws.Strings
namespace Go.Sx
set_option linter.unusedVariables false
def di (x:UInt8):Value:=.int .u8 (x.toNat:Int)
def af (w:World) (a:Option Addr) (L:List Value):Prop:=
 match a with
 | none=>L = []
 | some ad=>L = []∨(ad.spot=none∧∃ arr e fz,w.heap[ad.block]? = some (.cells arr e fz)∧∀ j,j<L.length→arr[ad.off+j]? = L[j]?)
theorem af.there {w:World} {ad:Addr} {L:List Value} (h:af w (some ad) L) (hn:L≠[]):ad.spot=none∧∃ arr e fz,w.heap[ad.block]? = some (.cells arr e fz)∧∀ j,j<L.length→arr[ad.off+j]? = L[j]?:=
 h.resolve_left hn
theorem af.sR {w:World} (a:Option Addr):af w a []:=by
 cases a with
 | none=>rfl
 | some ad=>exact .inl rfl
theorem ne_of_lt {α:Type} {L:List α} {j:Nat} (h:j<L.length):L≠[]:=by
 rintro rfl
 simp at h
theorem af.Ac {w:World}:af w none []:=rfl
theorem af.oF {w:World} {L:List Value} (h:af w none L):L = []:=h
theorem af.cell {w:World} {ad:Addr} {L:List Value} (h:af w (some ad) L) {j:Nat} (hj:j<L.length):w.cell? (ad.add j)=L[j]?:=by
 obtain⟨hs,arr,e,fz,h1,h2⟩:=h.there (ne_of_lt hj)
 obtain⟨b,o,s⟩:=ad
 simp at hs
 subst hs
 rw[Addr.bG]
 simp[World.cell?,h1,h2 j hj]
theorem Addr.cV {ad:Addr} (h:ad.spot=none) (m n:Nat):(ad.add m).add n=ad.add (m+n):=by
 obtain⟨b,o,s⟩:=ad
 simp at h
 subst h
 simp[Addr.bG,Nat.add_assoc]
theorem af.drop {w:World} {ad:Addr} {L:List Value} (h:af w (some ad) L) (k:Nat):af w (some (ad.add k)) (L.drop k):=by
 rcases h with rfl | ⟨hs,arr,e,fz,h1,h2⟩
 · exact .inl (by simp)
 obtain⟨b,o,s⟩:=ad
 simp at hs
 subst hs
 rw[Addr.bG]
 refine .inr ⟨rfl,arr,e,fz,h1,fun j hj=>?_⟩
 simp at hj
 rw[Nat.add_assoc,h2 _ (by omega),List.getElem?_drop]
theorem af.take {w:World} {a:Option Addr} {L:List Value} (h:af w a L) (k:Nat):af w a (L.take k):=by
 cases a with
 | none=>rw[af.oF h];simp[af]
 | some ad=>
  rcases h with rfl | ⟨hs,arr,e,fz,h1,h2⟩
  · exact .inl (by simp)
  refine .inr ⟨hs,arr,e,fz,h1,fun j hj=>?_⟩
  simp at hj
  rw[h2 _ (by omega),List.getElem?_take,if_pos (by omega)]
theorem af.nil {w:World} {a:Option Addr} {L:List Value} (h:af w a L):af w a []:=by simpa using h.take 0
theorem af.vc {w:World} {b:Nat} {C:List Value} (h:fC w b C):af w (some ⟨b,0,none⟩) C:=by
 obtain⟨e,h⟩:=h
 exact .inr ⟨rfl,C.toArray,e,_,h,fun j hj=>by simp⟩
theorem af.wv {w:World} {b o:Nat} {C:List Value} (h:Range w b o C):af w (some ⟨b,o,none⟩) C:=by
 obtain⟨arr,e,h1,h2⟩:=h
 exact .inr ⟨rfl,arr,e,_,h1,h2⟩
theorem af.holds {av:Nat→Prop} {w:World} {ad:Addr} {L:List Value} (h:af w (some ad) L) (ha : ¬ av ad.block):Holds av w (fun w=>af w (some ad) L):=by
 rcases h with rfl | ⟨hs,arr,e,fz,h1,h2⟩
 · exact⟨fun _=>False,fun _ h=>h.elim,fun _ _=>.inl rfl⟩
 exact Holds.block ad.block (bu h1) ha fun w' hw=>.inr ⟨hs,arr,e,fz,by rw[hw,h1],h2⟩
section
variable {P:Program} {aT:dy} {w0:World} {R:Nat→Nat→Prop} {av:Nat→Prop} {bs:List (Nat×Nat)} {cs:List (List Value)} {F:Fx}
def aG (w0:World) (R:Nat→Nat→Prop) (av:Nat→Prop) (bs:List (Nat×Nat)) (cs:List (List Value)) (F:Fx) (a:Option Addr) (L:List Value):Prop:=∀ w,St w0 R av w bs cs F→af w a L
theorem aG.fact {a:Option Addr} {L:List Value} (h : ∀ w,F.D w→af w a L):aG w0 R av bs cs F a L:=fun w hst=>h w hst.now
theorem aG.row {b:Nat} {C:List Value} (h:(b,Row.c C)∈F.rs):aG w0 R av bs cs F (some ⟨b,0,none⟩) C:=fun w hst=>.vc (hst.rows _ h).1
theorem aG.take {a:Option Addr} {L:List Value} (h:aG w0 R av bs cs F a L) (k:Nat):aG w0 R av bs cs F a (L.take k):=fun w hst=>(h w hst).take k
theorem aG.eq {a:Option Addr} {L L':List Value} (h:aG w0 R av bs cs F a L) (e:L=L'):aG w0 R av bs cs F a L':=e ▸ h
theorem ar.aj {m:Sem Value} {K:KV} (h:ak P w0 R av m bs cs F fun v=>K v bs cs F):ar P w0 R av m bs cs F K:=by
 obtain⟨v,h1,h2⟩:=(bd _ _ _ _).1 h
 exact cr.2 fun w hst=>⟨v,w,[],cs,F,h1 w hst,by rw[List.append_nil];exact hst,by rw[List.append_nil];exact h2⟩
theorem cC {d:TypeDesc} {e:TypeId} (h:cX d = .slice e):d = .slice e:=by
 cases d<;>simp[cX] at h
 rw[h]
theorem ak.index (hT:bt P aT) {t:TypeId} {ti te:TI} {e:TypeId} (ht:look aT t=some ti) (hk:ti.k = .slice e) (he:look aT e=some te) {a:Option Addr} {n c:Nat} {k:IntKind} {i:Int} {K:Value→Prop}
 (h0:0≤i) (h1:i<n) (ha:a=none→n=0) (h : ∀ ad,a=some ad→K (.pointer (some (ad.add (i.toNat*te.size))))) :
 ak P w0 R av (Instr.indexAt t (.slice a n c) (.int k i)) bs cs F K:=by
 cases a with
 | none=>have:=ha rfl;omega
 | some ad=>
  refine(bd _ _ _ _).2 ⟨_,fun w _=>?_,h ad rfl⟩
  obtain⟨i1,d1,z1,p1,p2,p3,p4,p5,p6,p7,p8⟩:=aD (hT _ _ ht)
  obtain⟨i2,d2,z2,q1,q2,q3,q4,q5,q6,q7,q8⟩:=aD (hT _ _ he)
  rw[p4] at hk
  obtain rfl:=cC hk
  unfold Instr.indexAt
  rw[ai (m:=asIntOf (.int k i)) (a:=(k,i)) (w':=w) rfl]
  simp only
  rw[ai (aC p2 w)]
  simp only
  rw[ai (run_pure P _ w),ai (aC p2 w)]
  simp only
  rw[if_pos ⟨h0,h1⟩,ai (run_sizeOf q1 w),← q5]
  rfl
theorem ak.load (hT:bt P aT) {t:TypeId} {ti:TI} (ht:look aT t=some ti) (hk:ti.k.agg=false) {p ad:Addr} {k:Nat} {L:List Value} {v:Value} {K:Value→Prop}
 (hs:aG w0 R av bs cs F (some ad) L) (hp:p=ad.add k) (hv:L[k]? = some v) (h:K v):ak P w0 R av (Instr.loadAt t (.pointer (some p))) bs cs F K:=by
 subst hp
 refine(bd _ _ _ _).2 ⟨v,fun w hst=>?_,h⟩
 show(loadVar t (ad.add k)).run P w=_
 have hlt:k<L.length:=(List.getElem?_eq_some_iff.1 hv).1
 exact dp (hT _ _ ht) hk (by rw[(hs w hst).cell hlt,hv])
theorem ak.aU (hT:bt P aT) {t:TypeId} {ti:TI} (ht:look aT t=some ti) (hk:ti.k.agg=true) {p ad:Addr} {k:Nat} {L m:List Value} {K:Value→Prop}
 (hs:aG w0 R av bs cs F (some ad) L) (hp:p=ad.add k) (hm:(L.drop k).take ti.size=m) (hl:m.length=ti.size) (h:K (.agg ⟨m⟩)):ak P w0 R av (Instr.loadAt t (.pointer (some p))) bs cs F K:=by
 subst hp
 refine(bd _ _ _ _).2 ⟨_,fun w hst=>?_,h⟩
 show(loadVar t (ad.add k)).run P w=_
 have hr:=(hs w hst)
 rcases hr with he | hr
 · subst he
   simp at hm
   subst hm
   obtain⟨i1,d1,z1,p1,p2,p3,p4,p5,p6,p7,p8⟩:=aD (hT _ _ ht)
   unfold loadVar
   rw[ai (df p2 w),← p4,hk]
   simp only[if_true]
   rw[ai (run_sizeOf p1 w),← p5,← hl]
   rfl
 have hsp:ad.spot=none:=hr.1
 have hr:af w (some ad) L:=.inr hr
 obtain⟨b,o,s⟩:=ad
 simp at hsp
 subst hsp
 rw[Addr.bG]
 refine ed (hT _ _ ht) hk m hl fun j hj=>?_
 have:=hr.cell (j:=k+j) (by rw[← hm] at hj;simp at hj;omega)
 rw[Addr.bG,← Nat.add_assoc] at this
 rw[this,← hm,List.getElem?_take,if_pos (by omega),List.getElem?_drop]
def oU (a:Option Addr) (l m size:Nat):Option Addr:=if m=l then a else a.map (·.add (l*size))
theorem af.cut {w:World} {a:Option Addr} {L:List Value} (h:af w a L) {l hi m size:Nat} (hm:l≤hi∧hi≤m):af w (oU a l m size) ((L.drop (l*size)).take ((hi - l)*size)):=by
 unfold oU
 split
 · have:hi - l=0:=by omega
   rw[this]
   simpa using h.nil
 · cases a with
   | none=>rw[af.oF h];simp[af]
   | some ad=>exact(h.drop _).take _
theorem ez {P:Program} {w:World} {k:IntKind} {i:Int} {y:Nat} {code:BoundsCode} (h0:0≤i) (h1:i≤y):(Instr.sliceBound (.int k i) y code).run P w = .ok i.toNat w:=by
 unfold Instr.sliceBound
 rw[ai (m:=asIntOf (.int k i)) (a:=(k,i)) (w':=w) rfl]
 simp only
 rw[if_pos ⟨h0,h1⟩]
 rfl
theorem ak.slice (hT:bt P aT) {t:TypeId} {ti te:TI} {e:TypeId} (ht:look aT t=some ti) (hk:ti.k = .slice e) (he:look aT e=some te) {a:Option Addr} {n c:Nat} {k1 k2 k3:IntKind}
 {lo hi mx:Option Int} {K:Value→Prop} (l h m:Nat) (hl:lo.getD 0=l) (hh:hi.getD n=h) (hm:mx.getD c=m) (h1:l≤h) (h2:h≤m) (h3:m≤c) (hx:mx.isSome=true→hi.isSome=true)
 (hK:K (.slice (oU a l m te.size) (h - l) (m - l))) :
 ak P w0 R av (Instr.sliceAt t (.slice a n c) (lo.map (.int k1)) (hi.map (.int k2)) (mx.map (.int k3))) bs cs F K:=by
 refine(bd _ _ _ _).2 ⟨_,fun w _=>?_,hK⟩
 obtain⟨i1,d1,z1,p1,p2,p3,p4,p5,p6,p7,p8⟩:=aD (hT _ _ ht)
 obtain⟨i2,d2,z2,q1,q2,q3,q4,q5,q6,q7,q8⟩:=aD (hT _ _ he)
 rw[p4] at hk
 obtain rfl:=cC hk
 unfold Instr.sliceAt
 rw[ai (aC p2 w)]
 simp only
 unfold Instr.slice
 rw[ai (aC p2 w)]
 simp only
 have hb:(Instr.sliceBounds true n c (lo.map (.int k1)) (hi.map (.int k2)) (mx.map (.int k3))).run P w = .ok (l,h,m) w:=by
  unfold Instr.sliceBounds
  cases mx with
  | none=>
   obtain rfl:m=c:=by have:(c:Int)=m:=hm;omega
   cases hi with
   | none=>
    obtain rfl:h=n:=by have:(n:Int)=h:=hh;omega
    simp only[Option.map_none]
    rw[ai (run_pure P _ w),ai (run_pure P _ w)]
    cases lo with
    | none=>
     obtain rfl:l=0:=by have:(0:Int)=l:=hl;omega
     rfl
    | some i=>
     obtain rfl:i=(l:Int):=hl
     simp only[Option.map_some]
     rw[ai (ez (by omega) (by omega))]
     rfl
   | some j=>
    obtain rfl:j=(h:Int):=hh
    simp only[Option.map_none,Option.map_some]
    rw[ai (run_pure P _ w),ai (ez (by omega) (by omega))]
    cases lo with
    | none=>
     obtain rfl:l=0:=by have:(0:Int)=l:=hl;omega
     rfl
    | some i=>
     obtain rfl:i=(l:Int):=hl
     simp only[Option.map_some]
     rw[ai (ez (by omega) (by simp;omega))]
     rfl
  | some mm=>
   obtain rfl:mm=(m:Int):=hm
   cases hi with
   | none=>simp at hx
   | some j=>
    obtain rfl:j=(h:Int):=hh
    simp only[Option.map_some]
    rw[ai (ez (by omega) (by omega)),ai (ez (by omega) (by simp;omega))]
    cases lo with
    | none=>
     obtain rfl:l=0:=by have:(0:Int)=l:=hl;omega
     rfl
    | some i=>
     obtain rfl:i=(l:Int):=hl
     simp only[Option.map_some]
     rw[ai (ez (by omega) (by simp;omega))]
     rfl
 rw[ai hb]
 simp only
 rw[ai (run_sizeOf q1 w),← q5]
 rfl
end
end Go.Sx
namespace Go.Sx
set_option linter.unusedVariables false
theorem qC (size:Nat) : ∀ (vs:List Value) (k:Nat) (pre z:List Value),pre.length=k*size→z.length=vs.length*size→(∀ v∈vs,v.cells.toList.length=size)→
 Instr.fill (fun i=>some (i*size,size)) ⟨pre++z⟩ ((vs.zipIdx k).map fun x=>(x.2,x.1))=some ⟨pre++vs.flatMap (·.cells.toList)⟩
 | [],k,pre,z,h1,h2,_=>by
  have:z = []:=List.eq_nil_of_length_eq_zero (by simpa using h2)
  subst this
  simp[Instr.fill]
 | v::vs,k,pre,z,h1,h2,h3=>by
  have hv:=h3 v (List.mem_cons_self ..)
  have hz:size≤z.length:=by rw[h2,List.length_cons,Nat.succ_mul];omega
  simp only[List.zipIdx_cons,List.map_cons]
  rw[ki _ _ _ _ _ (k*size) size rfl hv (by rw[hv,List.length_append,h1];omega)]
  have e1:(pre++z).take (k*size)=pre:=by rw[← h1,List.take_left]
  have e2:(pre++z).drop (k*size+v.cells.toList.length)=z.drop size:=by
   rw[hv,← h1,List.drop_append,List.drop_of_length_le (by omega)]
   simp
  rw[e1,e2,qC size vs (k+1) (pre++v.cells.toList) (z.drop size) (by rw[List.length_append,h1,hv,Nat.succ_mul])
   (by rw[List.length_drop,h2,List.length_cons,Nat.succ_mul];omega) (fun u hu=>h3 u (List.mem_cons_of_mem _ hu))]
  simp
theorem St.newRow {w0:World} {R:Nat→Nat→Prop} {av:Nat→Prop} {w:World} {bs:List (Nat×Nat)} {cs:List (List Value)} {F:Fx} (h:St w0 R av w bs cs F) (c:List Value) (e:TypeId) :
 St w0 R av { w with heap:=w.heap.push (.cells c.toArray e) } bs cs ⟨F.D,F.rs ++ [(w.heap.size,Row.c c)]⟩:=by
 have hk:eB w { w with heap:=w.heap.push (.cells c.toArray e) }:=
  fT rfl rfl rfl (by simp) (fun b hb=>by simp[Array.getElem?_push,Nat.ne_of_lt hb])
 refine(h.kept (F':=⟨fun _=>True,[(w.heap.size,Row.c c)]⟩) hk ⟨fun r hr=>?_,by simp,.pure trivial⟩).bF (ao.imp fun w h=>h.1)
 simp at hr
 subst hr
 exact⟨⟨e,by simp⟩,Nat.le_refl _⟩
structure cB (sz n:Nat) (a:Option Addr) (cap:Nat) (C L:List Value):Prop where
 len:L.length=n*sz
 fit:n≤cap
 alt:(a=none∧C = []∧cap=0)∨∃ b,a=some ⟨b,0,none⟩∧C.length=cap*sz∧C.take (n*sz)=L
def bf (a:Option Addr) (C:List Value):List (Nat×Row):=match a with
 | none=>[]
 | some ad=>[(ad.block,C)]
theorem cB.nil (sz:Nat):cB sz 0 none 0 [] []:=⟨by simp,Nat.le_refl _,.inl ⟨rfl,rfl,rfl⟩⟩
theorem cB.full {sz n:Nat} {b:Nat} {L:List Value} (h:L.length=n*sz):cB sz n (some ⟨b,0,none⟩) n L L:=
 ⟨h,Nat.le_refl _,.inr ⟨b,rfl,h,by rw[← h];simp⟩⟩
theorem cB.cc {sz n:Nat} {a:Option Addr} {cap:Nat} {C L:List Value} (h:cB sz n a cap C L) (ha:a=none):n=0:=by
 rcases h.alt with⟨_,_,h1⟩ | ⟨b,h1,_⟩
 · have:=h.fit;omega
 · rw[ha] at h1;cases h1
section
variable {P:Program} {aT:dy} {w0:World} {R:Nat→Nat→Prop} {av:Nat→Prop} {bs:List (Nat×Nat)} {cs:List (List Value)} {F:Fx}
theorem cB.at {w:World} {sz n:Nat} {a:Option Addr} {cap:Nat} {C L:List Value} (h:cB sz n a cap C L) {r1 r2:List (Nat×Row)} {D:World→Prop}
 (hst:St w0 R av w bs cs ⟨D,r1++bf a C++r2⟩):af w a L:=by
 rcases h.alt with⟨rfl,rfl,h3⟩ | ⟨b,rfl,h2,h3⟩
 · have:n=0:=by have:=h.fit;omega
   have hl:=h.len
   rw[this] at hl
   exact List.eq_nil_of_length_eq_zero (by simpa using hl)
 · have hm:(b,Row.c C)∈r1++bf (some ⟨b,0,none⟩) C++r2:=by simp[bf]
   rw[← h3]
   exact(af.vc (hst.rows _ hm).1).take _
theorem cB.share {sz n:Nat} {a:Option Addr} {cap:Nat} {C L:List Value} (h:cB sz n a cap C L) {r1 r2:List (Nat×Row)} {D:World→Prop} :
 ao ⟨D,r1++bf a C++r2⟩ ⟨fun w=>D w∧af w a L,r1++r2⟩:=by
 intro w0 R av w bs cs hst
 have hat:=h.at hst
 have hle:Fx.Le ⟨D,r1++bf a C++r2⟩ ⟨D,r1++r2⟩:=⟨by
  show(r1++r2).Sublist (r1++bf a C++r2)
  exact List.Sublist.append (List.sublist_append_left _ _) (List.Sublist.refl _),fun _ h=>h⟩
 have h2:=hst.imp hle
 refine⟨h2.keep,h2.box,h2.nd,h2.own,h2.avlt,h2.rows,Holds.and h2.data ?_⟩
 rcases h.alt with⟨rfl,rfl,h3⟩ | ⟨b,rfl,h2',h3⟩
 · exact Holds.pure (p:=L = []) hat
 · refine hat.holds ?_
   have hnd:=hst.nd
   simp only[bf,List.map_append,List.map_cons,List.map_nil] at hnd
   have hm:(b,Row.c C)∈r1++bf (some ⟨b,0,none⟩) C++r2:=by simp[bf]
   have hb0:=(hst.rows _ hm).2
   rintro(hb | ⟨x,hx,he⟩ | ⟨r,hr,he⟩)
   · rcases hb0 with hb0 | hb0
     · have h7:=hst.avlt b hb
       simp at hb0
       omega
     · exact hb0.1 hb
   · rw[List.nodup_append] at hnd
     exact hnd.2.2 x.1 (List.mem_map.2 ⟨x,hx,rfl⟩) b (by simp) he
   · rw[List.nodup_append] at hnd
     have h8:=hnd.2.1
     rw[List.append_assoc,List.nodup_append] at h8
     rcases List.mem_append.1 hr with hr | hr
     · exact h8.2.2 r.1 (List.mem_map.2 ⟨r,hr,rfl⟩) b (by simp) he
     · have:=h8.2.1
       simp only[List.singleton_append,List.nodup_cons] at this
       exact this.1 (List.mem_map.2 ⟨r,hr,he⟩)
end
end Go.Sx
namespace Go.Sx
set_option linter.unusedVariables false
section
variable {P:Program} {aT:dy} {w0:World} {R:Nat→Nat→Prop} {av:Nat→Prop} {bs:List (Nat×Nat)} {cs:List (List Value)} {F:Fx}
theorem fM (w:World) (e:TypeId) (c:List Value):(newRow e ⟨c⟩).run P w = .ok ⟨w.heap.size,0,none⟩ { w with heap:=w.heap.push (.cells c.toArray e) }:=rfl
theorem ar.build (hT:bt P aT) {t:TypeId} {ti te:TI} {e:TypeId} (ht:look aT t=some ti) (hk:ti.k = .slice e) (he:look aT e=some te) {ps:List (Nat×Value)} {n:Nat} {K:KV} (vs:List Value)
 (hps:ps=vs.zipIdx.map fun x=>(x.2,x.1)) (hn:n=vs.length) (hsz : ∀ v∈vs,v.cells.toList.length=te.size) (hroom:n*te.size≤2 ^ 24)
 (h : ∀ b,K (.slice (some ⟨b,0,none⟩) n n) bs cs ⟨F.D,F.rs ++ [(b,Row.c (vs.flatMap (·.cells.toList)))]⟩):ar P w0 R av (Instr.buildSlice t n ⟨ps⟩) bs cs F K:=by
 subst hps hn
 refine cr.2 fun w hst=>?_
 obtain⟨i1,d1,z1,p1,p2,p3,p4,p5,p6,p7,p8⟩:=aD (hT _ _ ht)
 obtain⟨i2,d2,z2,q1,q2,q3,q4,q5,q6,q7,q8⟩:=aD (hT _ _ he)
 rw[p4] at hk
 obtain rfl:=cC hk
 refine⟨_,_,[],cs,_,?_,by rw[List.append_nil];exact hst.newRow (vs.flatMap (·.cells.toList)) e,by rw[List.append_nil];exact h _⟩
 unfold Instr.buildSlice
 rw[ai (aC p2 w)]
 simp only
 rw[ai (run_sizeOf q1 w),← q5,if_neg (by omega)]
 have key : ∀ z:Array Value,(match Instr.fill (fun i=>some (i*te.size,te.size)) (Array.map (fun x=>z[x%z.size]!) (Array.range (vs.length*te.size))) (List.map (fun x=>(x.snd,x.fst)) vs.zipIdx) with
  | some cells=>do
   let r ← newRow e cells
   pure (Value.slice (some r) vs.length vs.length)
  | _=>stuck "buildSlice: a part of the wrong size" : Sem Value).run P w =
  .ok (.slice (some ⟨w.heap.size,0,none⟩) vs.length vs.length) { w with heap:=w.heap.push (.cells (vs.flatMap (·.cells.toList)).toArray e) }:=by
  intro z
  have hf:=qC te.size vs 0 [] ((List.range (vs.length*te.size)).map (z[· % z.size]!)) (by simp) (by simp) hsz
  simp only[List.nil_append] at hf
  have hr:(Array.range (vs.length*te.size)).map (z[· % z.size]!)=⟨(List.range (vs.length*te.size)).map (z[· % z.size]!)⟩:=by
   apply Array.toList_inj.1
   simp
  rw[hr]
  simp only[hf]
  rw[ai (fM w e _)]
  rfl
 split
 · rw[ai (run_pure P _ w)]
   exact key _
 · rw[ai (dH q1 q3 w),ai (run_pure P _ w)]
   exact key _
theorem nH (newLen:Nat) : ∀ (k c:Nat),c≤newLen+(newLen+768)/4→Builtin.growBy newLen k c≤newLen+(newLen+768)/4
 | 0,c,h=>h
 | k+1,c,h=>by
  unfold Builtin.growBy
  split
  · exact h
  · exact nH newLen k _ (by omega)
theorem nextslicecap_le {need cap:Nat} (h:cap<need):Builtin.nextslicecap need cap≤2*need+1000:=by
 unfold Builtin.nextslicecap
 split
 · omega
 · split
   · omega
   · have:=nH need 4 cap (by omega)
     omega
theorem db {w:World} {a:Option Addr} {n c m sz:Nat} {L:List Value} (h:af w a L) (hL:L.length=m*sz):(Builtin.firstCells sz m (.slice a n c)).run P w = .ok ⟨L⟩ w:=by
 cases a with
 | none=>rw[af.oF h];rfl
 | some ad=>
  show(loadCells ad (m*sz)).run P w=_
  rw[← hL]
  rcases h with rfl | h
  · rfl
  have hsp:ad.spot=none:=h.1
  have h:af w (some ad) L:=.inr h
  obtain⟨b,o,s⟩:=ad
  simp at hsp
  subst hsp
  refine run_loadCells L fun j hj=>?_
  have:=h.cell hj
  rwa [Addr.bG] at this
theorem ix (z:List Value) (n:Nat):(Builtin.zeroCells ⟨z⟩ n).toList.length=n*z.length:=by
 unfold Builtin.zeroCells
 simp
theorem run_append_fits {w:World} {t xt ty e xe:TypeId} {i2:TypeInfo} (ht:P.underlying t=some (.slice e)) (hx:P.underlying xt=some (.slice xe)) (he:P.info? e=some i2) {a p:Option Addr} {n cap m cx:Nat}
 (hfit:n+m≤cap) {M:List Value} (hM:af w p M) (hl:M.length=m*i2.size) {w':World} (hs : ∀ ad,a=some ad→(storeCells (ad.add (n*i2.size)) M).run P w = .ok () w') (hn:a=none→w'=w) :
 (Builtin.append_ #[t,xt] ty #[.slice a n cap,.slice p m cx]).run P w = .ok (.slice a (n+m) cap) w':=by
 unfold Builtin.append_
 simp only[show(#[t,xt]:Array TypeId)[0]? = some t from rfl,show(#[t,xt]:Array TypeId)[1]? = some xt from rfl,show ∀ u v:Value,(#[u,v]:Array Value)[0]? = some u from fun _ _=>rfl,
  show ∀ u v:Value,(#[u,v]:Array Value)[1]? = some v from fun _ _=>rfl]
 rw[ai (aC ht w)]
 simp only
 rw[ai (run_sizeOf he w),ai (aC hx w),ai (run_pure P _ w)]
 simp only[Bool.false_eq_true,if_false,Bool.not_false,if_true]
 rw[ai (m:=Builtin.lenOf (.slice p m cx)) (a:=m) (w':=w) rfl]
 rw[if_pos hfit]
 rw[ai (db hM hl)]
 cases a with
 | none=>rw[hn rfl];rfl
 | some ad=>
  simp only
  rw[ai (hs ad rfl)]
  rfl
theorem run_askRoom (w:World) (n:Nat):(askRoom n).run P w = .ok () w:=by
 unfold askRoom
 split<;>rfl
theorem fg {w:World} {t xt ty e xe:TypeId} {i2:TypeInfo} {z:Value} (ht:P.underlying t=some (.slice e)) (hx:P.underlying xt=some (.slice xe)) (he:P.info? e=some i2) (hz:i2.zero=some z)
 {a p:Option Addr} {n cap m cx:Nat} (hfit : ¬ n+m≤cap) {L M:List Value} (hL:af w a L) (hl:L.length=n*i2.size) (hM:af w p M) (hm:M.length=m*i2.size) (hlen:n+m≤4611686018427387904)
 (hroom:Builtin.nextslicecap (n+m) cap*i2.bytes≤2 ^ 48) :
 ∃ newCap,n+m≤newCap∧(Builtin.append_ #[t,xt] ty #[.slice a n cap,.slice p m cx]).run P w =
  .ok (.slice (some ⟨w.heap.size,0,none⟩) (n+m) newCap)
   { w with heap:=w.heap.push (.cells (L++M++(Builtin.zeroCells z.cells (newCap - (n+m))).toList).toArray e),drawn:=w.drawn+1 }:=by
 refine⟨Question.cut (.appendCap (n+m) cap e) (w.tape w.drawn (.appendCap (n+m) cap e)),by simp[Question.cut],?_⟩
 have hcap : ¬ Builtin.nextslicecap (n+m) cap*i2.bytes>2 ^ 48:=by omega
 have hmax : ¬ ((n+m:Nat):Int)>IntKind.i64.max:=by
  have:IntKind.i64.max=9223372036854775807:=by decide
  rw[this]
  omega
 unfold Builtin.append_
 simp only[show(#[t,xt]:Array TypeId)[0]? = some t from rfl,show(#[t,xt]:Array TypeId)[1]? = some xt from rfl,show ∀ u v:Value,(#[u,v]:Array Value)[0]? = some u from fun _ _=>rfl,
  show ∀ u v:Value,(#[u,v]:Array Value)[1]? = some v from fun _ _=>rfl]
 rw[ai (aC ht w)]
 simp only
 rw[ai (run_sizeOf he w),ai (aC hx w),ai (run_pure P _ w)]
 simp only[Bool.false_eq_true,if_false,Bool.not_false,if_true]
 rw[ai (m:=Builtin.lenOf (.slice p m cx)) (a:=m) (w':=w) rfl]
 rw[if_neg hfit]
 rw[ai (run_typeInfo he w),if_neg (fun h=>hmax h.1)]
 rw[ai (run_typeInfo he w),if_neg hcap]
 rw[ai (m:=choose _) (w':={ w with drawn:=w.drawn+1 }) rfl]
 rw[ai (run_typeInfo he _),ai (run_askRoom _ _)]
 rw[ai (db (L:=L) (by exact hL) hl),ai (db (L:=M) (by exact hM) hm)]
 rw[ai (dH he hz _)]
 have hc:(⟨L⟩:Array Value)++⟨M⟩++Builtin.zeroCells z.cells (Question.cut (.appendCap (n+m) cap e) (w.tape w.drawn (.appendCap (n+m) cap e)) - (n+m)) =
  ⟨L++M++(Builtin.zeroCells z.cells (Question.cut (.appendCap (n+m) cap e) (w.tape w.drawn (.appendCap (n+m) cap e)) - (n+m))).toList⟩:=by
  apply Array.toList_inj.1
  simp
 rw[hc,ai (fM _ e _)]
 rfl
theorem j_ {w:World} {t xt ty e xe:TypeId} {i2:TypeInfo} {z:Value} (ht:P.underlying t=some (.slice e)) (hx:P.underlying xt=some (.slice xe)) (he:P.info? e=some i2) (hz:i2.zero=some z)
 {a p:Option Addr} {n cap m cx:Nat} (hfit : ¬ n+m≤cap) {L M:List Value} (hL:af w a L) (hl:L.length=n*i2.size) (hM:af w p M) (hm:M.length=m*i2.size) (hlen:n+m≤4611686018427387904)
 (hroom:(2*(n+m)+1000)*i2.bytes≤2 ^ 48) :
 ∃ newCap,n+m≤newCap∧(Builtin.append_ #[t,xt] ty #[.slice a n cap,.slice p m cx]).run P w =
  .ok (.slice (some ⟨w.heap.size,0,none⟩) (n+m) newCap)
   { w with heap:=w.heap.push (.cells (L++M++(Builtin.zeroCells z.cells (newCap - (n+m))).toList).toArray e),drawn:=w.drawn+1 }:=
 fg ht hx he hz hfit hL hl hM hm hlen (by
  have:=Nat.mul_le_mul_right i2.bytes (nextslicecap_le (need:=n+m) (cap:=cap) (by omega))
  omega)
end
end Go.Sx
namespace Go.Sx
set_option linter.unusedVariables false
section
variable {P:Program} {aT:dy} {w0:World} {R:Nat→Nat→Prop} {av:Nat→Prop} {bs:List (Nat×Nat)} {cs:List (List Value)}
theorem ao.perm {D:World→Prop} {rs rs':List (Nat×Row)} (h:rs.Perm rs'):ao ⟨D,rs⟩ ⟨D,rs'⟩:=by
 intro w0 R av w bs cs hst
 have hm : ∀ r,r∈rs'→r∈rs:=fun r hr=>h.mem_iff.2 hr
 refine⟨hst.keep,hst.box,?_,hst.own,hst.avlt,fun r hr=>hst.rows r (hm r hr),hst.data.less fun b hb=>?_⟩
 · exact(List.Perm.nodup_iff (List.Perm.append (List.Perm.refl _) (h.map _))).1 hst.nd
 · rcases hb with hb | hb | ⟨r,hr,rfl⟩
   · exact .inl hb
   · exact .inr (.inl hb)
   · exact .inr (.inr ⟨r,hm r hr,rfl⟩)
theorem St.drew {w:World} {F:Fx} (h:St w0 R av w bs cs F):St w0 R av { w with drawn:=w.drawn+1 } bs cs F:=
 h.nM ⟨rfl,rfl,rfl,Nat.le_refl _,fun b o ho=>⟨o,ho,.refl _ _⟩⟩
theorem St.putRow {w w':World} {D:World→Prop} {r1 r2:List (Nat×Row)} {b:Nat} {C C':Row} (h:St w0 R av w bs cs ⟨D,r1 ++ [(b,C)]++r2⟩) (h1:w'.os=w.os) (h2:w'.tape=w.tape)
 (h3:w'.output=w.output) (h4:w'.heap.size=w.heap.size) (h5 : ∀ k,k≠b→w'.heap[k]? = w.heap[k]?) (h6:fC w' b C') (h7 : ∀ l,C=Row.c l→(∃ l',C'=Row.c l')∧∃ e a a',w.heap[b]? = some (.cells a e (0,0))∧w'.heap[b]? = some (.cells a' e (0,0))∧a'.size=a.size)
 (h8 : ∀ es k,C=Row.m es k→∃ es' k',C'=Row.m es' k':=by intro es k hh;first | (cases hh;done) | exact⟨_,_,rfl⟩):St w0 R av w' bs cs ⟨D,r1 ++ [(b,C')]++r2⟩:=by
 have hb0:=(h.rows (b,C) (by simp)).2
 have hnd:=h.nd
 simp only[List.map_append,List.map_cons,List.map_nil] at hnd
 have hnb : ∀ x∈bs,x.1≠b:=fun x hx he=>by
  rw[List.nodup_append] at hnd
  exact hnd.2.2 x.1 (List.mem_map.2 ⟨x,hx,rfl⟩) b (by simp) he
 have hnr : ∀ r,r∈r1∨r∈r2→r.1≠b:=fun r hr he=>by
  rw[List.nodup_append] at hnd
  have h8:=hnd.2.1
  rw[List.append_assoc,List.nodup_append] at h8
  rcases hr with hr | hr
  · exact h8.2.2 r.1 (List.mem_map.2 ⟨r,hr,rfl⟩) b (by simp) he
  · have:=h8.2.1
    simp only[List.singleton_append,List.nodup_cons] at this
    exact this.1 (List.mem_map.2 ⟨r,hr,he⟩)
 refine⟨⟨h1.trans h.keep.os,h2.trans h.keep.tape,h3.trans h.keep.output,by rw[h4];exact h.keep.size,fun k o ho=>?_⟩,h.box.of_same fun x hx=>h5 _ (hnb x hx),?_,h.own,h.avlt,fun r hr=>?_,?_⟩
 · obtain⟨o',ho',hs⟩:=h.keep.obj k o ho
   have hlt:=bu ho
   by_cases hkb:k=b
   · subst hkb
     rcases hb0 with hb0 | ⟨_,hR,⟨l,hC⟩ | ⟨es,kk,hC⟩⟩
     · simp at hb0
       omega
     · obtain⟨_,e,a,a',g1,g2,g3⟩:=h7 l hC
       rw[g1] at ho'
       cases ho'
       exact⟨_,g2,hs.trans (.inr (.inl ⟨a,a',e,_,rfl,rfl,g3,fun i hi=>absurd (hR i) hi⟩))⟩
     · have hC:C=Row.m es kk:=hC
       obtain⟨es',k',hC'⟩:=h8 es kk hC
       have g1:=(h.rows (k,C) (by simp)).1
       dsimp only at g1
       rw[hC] at g1
       rw[hC'] at h6
       have g1:w.heap[k]? = some (.map es kk):=g1
       have g2:w'.heap[k]? = some (.map es' k'):=h6
       rw[g1] at ho'
       cases ho'
       exact⟨_,g2,hs.trans (.inr (.inr ⟨hR,es,kk,es',k',rfl,rfl⟩))⟩
   · exact⟨o',by rw[h5 k hkb];exact ho',hs⟩
 · simpa only[List.map_append,List.map_cons,List.map_nil] using hnd
 · simp only[List.mem_append,List.mem_singleton] at hr
   rcases hr with(hr | rfl) | hr
   · have:=h.rows r (by simp[hr])
     exact⟨this.1.of_same (h5 _ (hnr r (.inl hr))),this.2⟩
   · refine⟨h6,hb0.imp id fun⟨q1,q2,q3⟩=>⟨q1,q2,q3.elim (fun⟨l,q3⟩=>.inl (h7 l q3).1) fun⟨es,k,q3⟩=>.inr (h8 es k q3)⟩⟩
   · have:=h.rows r (by simp[hr])
     exact⟨this.1.of_same (h5 _ (hnr r (.inr hr))),this.2⟩
 · refine h.data.move (by omega) (fun k hk hna=>h5 k fun he=>hna (.inr (.inr ⟨(b,C),by simp,he.symm⟩))) (fun k hk=>.inl ?_)
   rcases hk with hk | hk | ⟨r,hr,rfl⟩
   · exact .inl hk
   · exact .inr (.inl hk)
   · simp only[List.mem_append,List.mem_singleton] at hr
     rcases hr with(hr | rfl) | hr
     · exact .inr (.inr ⟨r,by simp[hr],rfl⟩)
     · exact .inr (.inr ⟨(b,C),by simp,rfl⟩)
     · exact .inr (.inr ⟨r,by simp[hr],rfl⟩)
theorem ar.s8 (hT:bt P aT) {t xt ty:TypeId} {ti tx te:TI} {e xe:TypeId} (ht:look aT t=some ti) (hk:ti.k = .slice e) (hx:look aT xt=some tx) (hxk:tx.k = .slice xe) (he:look aT e=some te)
 (hzl:te.zero.length=te.size) {D:World→Prop} {r1 r2:List (Nat×Row)} {a p:Option Addr} {n cap m cx:Nat} {C L M:List Value} {K:KV} (own:cB te.size n a cap C L)
 (hM:aG w0 R av bs cs ⟨D,r1++bf a C++r2⟩ p M) (hm:M.length=m*te.size) (hone : ∀ v∈M,aW v=true) (hlen:n+m≤4611686018427387904) (hroom:cap<n+m→Builtin.nextslicecap (n+m) cap*te.bytes≤2 ^ 48)
 (h : ∀ a' cap' C',cB te.size (n+m) a' cap' C' (L++M)→K (.slice a' (n+m) cap') bs cs ⟨D,r1++bf a' C'++r2⟩) :
 ar P w0 R av (Builtin.append_ #[t,xt] ty #[.slice a n cap,.slice p m cx]) bs cs ⟨D,r1++bf a C++r2⟩ K:=by
 refine cr.2 fun w hst=>?_
 obtain⟨i1,d1,z1,p1,p2,p3,p4,p5,p6,p7,p8⟩:=aD (hT _ _ ht)
 obtain⟨i3,d3,z3,o1,o2,o3,o4,o5,o6,o7,o8⟩:=aD (hT _ _ hx)
 obtain⟨i2,d2,z2,q1,q2,q3,q4,q5,q6,q7,q8⟩:=aD (hT _ _ he)
 rw[p4] at hk
 rw[o4] at hxk
 obtain rfl:=cC hk
 obtain rfl:=cC hxk
 have hMw:=hM w hst
 have hLw:=own.at hst
 by_cases hfit:n+m≤cap
 · rcases own.alt with⟨rfl,rfl,hc0⟩ | ⟨b,rfl,hCl,hCt⟩
   · have hn0:n=0:=by omega
     have hm0:m=0:=by omega
     subst hn0 hm0
     have hM0:M = []:=List.eq_nil_of_length_eq_zero (by simpa using hm)
     have hL0:L = []:=List.eq_nil_of_length_eq_zero (by simpa using own.len)
     subst hM0 hL0 hc0
     refine⟨_,w,[],cs,_,run_append_fits p2 o2 q1 (by omega) hMw (by simp) (w':=w) (fun ad h=>by cases h) (fun _=>rfl),by rw[List.append_nil];exact hst,by
      rw[List.append_nil];exact h none 0 [] (cB.nil _)⟩
   · have hrow:=(hst.rows (b,C) (by simp[bf])).1
     obtain⟨et,hrow⟩:=hrow
     have hsz:0+n*te.size+0+M.length≤C.toArray.size:=by
      simp only[List.size_toArray]
      rw[hCl,hm,Nat.zero_add,Nat.add_zero,← Nat.add_mul]
      exact Nat.mul_le_mul_right _ hfit
     obtain⟨w',g1,g2,g3,g4,g5,g6,arr',g7,g8,g9⟩:=dI (P:=P) (b:=b) (o:=0+n*te.size) M 0 w C.toArray et hrow hone hsz
     have hO:cB te.size (n+m) (some ⟨b,0,none⟩) cap (C.take (n*te.size)++M++C.drop ((n+m)*te.size)) (L++M):=by
      have hle:n*te.size+m*te.size≤C.length:=by rw[hCl,← Nat.add_mul];exact Nat.mul_le_mul_right _ hfit
      have hadd:(n+m)*te.size=n*te.size+m*te.size:=Nat.add_mul ..
      refine⟨by rw[List.length_append,own.len,hm,Nat.add_mul],hfit,.inr ⟨b,rfl,?_,?_⟩⟩
      · simp only[List.length_append,List.length_take,List.length_drop]
        omega
      · rw[hCt,hadd,List.take_append_of_le_length (by rw[List.length_append,own.len,hm];exact Nat.le_refl _)]
        rw[List.take_of_length_le (by rw[List.length_append,own.len,hm];exact Nat.le_refl _)]
     refine⟨_,w',[],cs,_,run_append_fits p2 o2 q1 hfit hMw (by rw[← q5];exact hm) (w':=w') (fun ad had=>?_) (fun h=>by cases h),?_,by
      rw[List.append_nil];exact h _ _ _ hO⟩
     · cases had
       rw[Addr.bG,← q5]
       exact g1
     · rw[List.append_nil]
       refine hst.putRow (C:=Row.c C) (C':=Row.c _) g2 g3 g4 g5 g6 ⟨et,?_⟩ fun l hl=>⟨⟨_,rfl⟩,et,_,_,hrow,g7,g8⟩
       rw[g7]
       congr 2
       apply Array.ext_getElem?
       intro j
       rw[g9 j]
       have hle:n*te.size+m*te.size≤C.length:=by rw[hCl,← Nat.add_mul];exact Nat.mul_le_mul_right _ hfit
       have hadd:(n+m)*te.size=n*te.size+m*te.size:=Nat.add_mul ..
       simp only[Nat.zero_add,Nat.add_zero,List.getElem?_toArray]
       by_cases hin:n*te.size≤j∧j<n*te.size+M.length
       · rw[if_pos hin,List.append_assoc,List.getElem?_append_right (by simp only[List.length_take];omega),List.getElem?_append_left (by simp only[List.length_take];omega)]
         congr 1
         simp only[List.length_take]
         omega
       · rw[if_neg hin]
         by_cases hlt:j<n*te.size
         · rw[List.append_assoc,List.getElem?_append_left (by simp only[List.length_take];omega),List.getElem?_take,if_pos hlt]
         · rw[List.getElem?_append_right (by simp only[List.length_take,List.length_append];omega),List.getElem?_drop]
           congr 1
           simp only[List.length_take,List.length_append]
           omega
 · obtain⟨newCap,hc,hrun⟩:=fg (w:=w) (ty:=ty) p2 o2 q1 q3 (cx:=cx) hfit hLw (by rw[← q5];exact own.len) hMw (by rw[← q5];exact hm) hlen (by rw[← q7];exact hroom (by omega))
   have hO:cB te.size (n+m) (some ⟨w.heap.size,0,none⟩) newCap (L++M++(Builtin.zeroCells z2.cells (newCap - (n+m))).toList) (L++M):=by
    refine⟨by rw[List.length_append,own.len,hm,Nat.add_mul],hc,.inr ⟨_,rfl,?_,?_⟩⟩
    · have hzc:z2.cells=⟨te.zero⟩:=by rw[q6]
      rw[List.length_append,List.length_append,own.len,hm,hzc,ix,hzl,← Nat.add_mul,← Nat.add_mul]
      congr 1
      omega
    · rw[List.take_append_of_le_length (by rw[List.length_append,own.len,hm,Nat.add_mul];exact Nat.le_refl _)]
      rw[List.take_of_length_le (by rw[List.length_append,own.len,hm,Nat.add_mul];exact Nat.le_refl _)]
   refine⟨_,_,[],cs,_,hrun,?_,by rw[List.append_nil];exact h _ _ _ hO⟩
   · rw[List.append_nil]
     have hle:Fx.Le ⟨D,r1++bf a C++r2⟩ ⟨D,r1++r2⟩:=⟨List.Sublist.append (List.sublist_append_left _ _) (List.Sublist.refl _),fun _ h=>h⟩
     have h1:=((hst.imp hle).newRow (L++M++(Builtin.zeroCells z2.cells (newCap - (n+m))).toList) e).drew
     refine h1.bF (ao.perm ?_)
     have hp : ∀ x:Nat×Row,(r1++r2 ++ [x]).Perm (r1 ++ [x]++r2):=fun x=>by
      rw[List.append_assoc,List.append_assoc]
      exact List.Perm.append (List.Perm.refl _) List.perm_append_comm
     exact hp _
theorem ar.append (hT:bt P aT) {t xt ty:TypeId} {ti tx te:TI} {e xe:TypeId} (ht:look aT t=some ti) (hk:ti.k = .slice e) (hx:look aT xt=some tx) (hxk:tx.k = .slice xe) (he:look aT e=some te)
 (hzl:te.zero.length=te.size) {D:World→Prop} {r1 r2:List (Nat×Row)} {a p:Option Addr} {n cap m cx:Nat} {C L M:List Value} {K:KV} (own:cB te.size n a cap C L)
 (hM:aG w0 R av bs cs ⟨D,r1++bf a C++r2⟩ p M) (hm:M.length=m*te.size) (hone : ∀ v∈M,aW v=true) (hlen:n+m≤4611686018427387904) (hroom:(2*(n+m)+1000)*te.bytes≤2 ^ 48)
 (h : ∀ a' cap' C',cB te.size (n+m) a' cap' C' (L++M)→K (.slice a' (n+m) cap') bs cs ⟨D,r1++bf a' C'++r2⟩) :
 ar P w0 R av (Builtin.append_ #[t,xt] ty #[.slice a n cap,.slice p m cx]) bs cs ⟨D,r1++bf a C++r2⟩ K:=
 ar.s8 hT ht hk hx hxk he hzl own hM hm hone hlen (fun hc=>by
  have:=Nat.mul_le_mul_right te.bytes (nextslicecap_le (need:=n+m) (cap:=cap) hc)
  omega) h
theorem ar.j5 (hT:bt P aT) {t xt ty:TypeId} {ti tx te:TI} {e xe:TypeId} (ht:look aT t=some ti) (hk:ti.k = .slice e) (hx:look aT xt=some tx) (hxk:tx.k = .slice xe) (he:look aT e=some te)
 (hzl:te.zero.length=te.size) {F:Fx} {a p:Option Addr} {n cap m cx:Nat} {L M:List Value} {K:KV} (hL:aG w0 R av bs cs F a L) (hl:L.length=n*te.size)
 (hM:aG w0 R av bs cs F p M) (hm:M.length=m*te.size) (hc:cap<n+m) (hlen:n+m≤4611686018427387904) (hroom:(2*(n+m)+1000)*te.bytes≤2 ^ 48)
 (h : ∀ b cap' C',cB te.size (n+m) (some ⟨b,0,none⟩) cap' C' (L++M)→K (.slice (some ⟨b,0,none⟩) (n+m) cap') bs cs ⟨F.D,F.rs ++ [(b,Row.c C')]⟩) :
 ar P w0 R av (Builtin.append_ #[t,xt] ty #[.slice a n cap,.slice p m cx]) bs cs F K:=by
 refine cr.2 fun w hst=>?_
 obtain⟨i1,d1,z1,p1,p2,p3,p4,p5,p6,p7,p8⟩:=aD (hT _ _ ht)
 obtain⟨i3,d3,z3,o1,o2,o3,o4,o5,o6,o7,o8⟩:=aD (hT _ _ hx)
 obtain⟨i2,d2,z2,q1,q2,q3,q4,q5,q6,q7,q8⟩:=aD (hT _ _ he)
 rw[p4] at hk
 rw[o4] at hxk
 obtain rfl:=cC hk
 obtain rfl:=cC hxk
 obtain⟨newCap,hc,hrun⟩:=j_ (w:=w) (ty:=ty) p2 o2 q1 q3 (cx:=cx) (Nat.not_le.2 hc) (hL w hst) (by rw[← q5];exact hl) (hM w hst) (by rw[← q5];exact hm) hlen (by rw[← q7];exact hroom)
 have hO:cB te.size (n+m) (some ⟨w.heap.size,0,none⟩) newCap (L++M++(Builtin.zeroCells z2.cells (newCap - (n+m))).toList) (L++M):=by
  refine⟨by rw[List.length_append,hl,hm,Nat.add_mul],hc,.inr ⟨_,rfl,?_,?_⟩⟩
  · have hzc:z2.cells=⟨te.zero⟩:=by rw[q6]
    rw[List.length_append,List.length_append,hl,hm,hzc,ix,hzl,← Nat.add_mul,← Nat.add_mul]
    congr 1
    omega
  · rw[List.take_append_of_le_length (by rw[List.length_append,hl,hm,Nat.add_mul];exact Nat.le_refl _)]
    rw[List.take_of_length_le (by rw[List.length_append,hl,hm,Nat.add_mul];exact Nat.le_refl _)]
 refine⟨_,_,[],cs,_,hrun,?_,by rw[List.append_nil];exact h _ _ _ hO⟩
 rw[List.append_nil]
 exact(hst.newRow _ e).drew
end
end Go.Sx
namespace Go.Sx
set_option linter.unusedVariables false
section
variable {P:Program} {aT:dy} {w0:World} {R:Nat→Nat→Prop} {av:Nat→Prop} {bs:List (Nat×Nat)} {cs:List (List Value)} {F:Fx}
theorem ng (op:BinOp) (t:TypeId) (x y:Operand) (a b:Option Addr) (n m c d:Nat) (w:World):(eqGuard op t x y (.slice a n c) (.slice b m d)).run P w = .ok () w:=by
 cases op<;>rfl
theorem kV {t e:TypeId} (h:P.underlying t=some (.slice e)) (d:Nat) (a:Option Addr) (n c:Nat) (w:World):(Op.equalIn (d+1) t (.slice a n c) (.slice none 0 0)).run P w = .ok a.isNone w:=by
 unfold Op.equalIn
 rw[ai (aC h w)]
 cases a<;>rfl
theorem ns {t e:TypeId} (h:P.underlying t=some (.slice e)) (a:Option Addr) (n c:Nat) (w:World):(Op.equal t (.slice a n c) (.slice none 0 0)).run P w = .ok a.isNone w:=
 kV h 9999 a n c w
theorem ak.dJ (hT:bt P aT) {t e:TypeId} {ti:TI} (ht:look aT t=some ti) (hk:ti.k = .slice e) {x y:Operand} {a:Option Addr} {n c:Nat} {K:Value→Prop} (h:K (.bool a.isNone)) :
 ak P w0 R av (do eqGuard .eql t x y (.slice a n c) (.slice none 0 0);binOp .eql t (.slice a n c) (.slice none 0 0)) bs cs F K:=by
 refine(bd _ _ _ _).2 ⟨_,fun w _=>?_,h⟩
 obtain⟨i1,d1,z1,p1,p2,p3,p4,p5,p6,p7,p8⟩:=aD (hT _ _ ht)
 rw[p4] at hk
 obtain rfl:=cC hk
 rw[ai (ng _ _ _ _ _ _ _ _ _ _ w)]
 show(do pure (Value.bool (← Op.equal t (.slice a n c) (.slice none 0 0))):Sem Value).run P w=_
 rw[ai (ns p2 a n c w)]
 rfl
def dS (l:List UInt8):Value:=.string ⟨⟨l⟩⟩
def tA (c:Value) (s:ByteArray):Sem (ForInStep ByteArray):=match c with
 | .int .u8 n=>pure (ForInStep.yield (s.push (UInt8.ofNat n.toNat)))
 | _=>do
  stuck "bytesToString: byte expected"
  pure (ForInStep.yield s)
theorem rk (x:UInt8) (acc:List UInt8):tA (di x) ⟨⟨acc⟩⟩=pure (ForInStep.yield ⟨⟨acc ++ [x]⟩⟩):=by
 unfold tA di
 simp only
 congr 2
 have:UInt8.ofNat (x.toNat:Int).toNat=x:=by simp
 rw[this]
 show ByteArray.mk (Array.push ⟨acc⟩ x)=_
 congr 1
 apply Array.toList_inj.1
 simp
theorem gN (w:World) : ∀ (l acc:List UInt8),(forIn (l.map di) (⟨⟨acc⟩⟩:ByteArray) tA:Sem ByteArray).run P w = .ok ⟨⟨acc++l⟩⟩ w
 | [],acc=>by simp
 | x::l,acc=>by
  simp only[List.map_cons,List.forIn_cons,rk]
  rw[ai (run_pure P _ w)]
  simp only
  rw[gN w l (acc ++ [x])]
  simp
theorem run_bytesToString {w:World} {a:Option Addr} {n c:Nat} {l:List UInt8} (h:af w a (l.map di)) (hn:n=l.length):(Conv.bytesToString (.slice a n c)).run P w = .ok (dS l) w:=by
 cases a with
 | none=>
  have:l = []:=by simpa using af.oF h
  subst this
  rfl
 | some ad=>
  have e:Conv.bytesToString (.slice (some ad) n c)=(do let cells ← loadCells ad n;let s ← forIn cells ByteArray.empty tA;pure (.string s)):=rfl
  have hl:(loadCells ad n).run P w = .ok ⟨l.map di⟩ w:=by
   have:=db (P:=P) (n:=n) (c:=c) (m:=n) (sz:=1) h (by simp[hn])
   simpa [Builtin.firstCells] using this
  rw[e,ai hl,← Array.forIn_toList]
  have hz:=gN (P:=P) w l []
  have he:(ByteArray.mk ⟨[]⟩)=ByteArray.empty:=rfl
  rw[he] at hz
  rw[ai hz]
  rfl
theorem nF {d:TypeDesc} (h:cX d = .str):d = .string:=by
 cases d<;>simp[cX] at h
 rfl
theorem ak.bytes (hT:bt P aT) {t u e:TypeId} {ti tu te:TI} (ht:look aT t=some ti) (hk:ti.k = .slice e) (hu:look aT u=some tu) (hs:tu.k = .str) (he:look aT e=some te) (hb:te.k = .int .u8)
 {a:Option Addr} {n c:Nat} {l:List UInt8} {K:Value→Prop} (hr:aG w0 R av bs cs F a (l.map di)) (hn:n=l.length) (h:K (dS l)):ak P w0 R av (convert t u (.slice a n c)) bs cs F K:=by
 refine(bd _ _ _ _).2 ⟨_,fun w hst=>?_,h⟩
 obtain⟨i1,d1,z1,p1,p2,p3,p4,p5,p6,p7,p8⟩:=aD (hT _ _ ht)
 obtain⟨i3,d3,z3,o1,o2,o3,o4,o5,o6,o7,o8⟩:=aD (hT _ _ hu)
 obtain⟨i2,d2,z2,q1,q2,q3,q4,q5,q6,q7,q8⟩:=aD (hT _ _ he)
 rw[p4] at hk
 rw[o4] at hs
 rw[q4] at hb
 obtain rfl:=cC hk
 obtain rfl:=nF hs
 have hb':d2 = .int .u8:=by cases d2<;>simp[cX] at hb;rw[hb]
 subst hb'
 unfold convert
 rw[ai (aC p2 w),ai (aC o2 w)]
 simp only
 rw[ai (aC q2 w)]
 exact run_bytesToString (hr w hst) hn
theorem qt (op:BinOp) (t:TypeId) (x y:Operand) (a b:ByteArray) (w:World):(eqGuard op t x y (.string a) (.string b)).run P w = .ok () w:=by
 cases op<;>rfl
theorem toList_mk (l:List UInt8):(ByteArray.mk ⟨l⟩).toList=l:=by
 rw[ByteArray.toList_eq]
theorem ak.zq {t:TypeId} {x y:Operand} {l m:List UInt8} {K:Value→Prop} (h:K (.bool (l == m))) :
 ak P w0 R av (do eqGuard .eql t x y (dS l) (dS m);binOp .eql t (dS l) (dS m)) bs cs F K:=by
 refine(bd _ _ _ _).2 ⟨_,fun w _=>?_,h⟩
 unfold dS
 rw[ai (qt _ _ _ _ _ _ w)]
 simp only[binOp,Op.stringOp,toList_mk]
 rfl
theorem ak.min {ts:Array TypeId} {ty:TypeId} {k:IntKind} {a b:Int} {K:Value→Prop} (h:K (.int k (if b<a then b else a))) :
 ak P w0 R av (Builtin.min_ ts ty #[.int k a,.int k b]) bs cs F K:=(bd _ _ _ _).2 ⟨_,fun w _=>rfl,h⟩
theorem yV {d:TypeDesc} {k:IntKind} (h:cX d = .int k):d = .int k:=by
 cases d<;>simp[cX] at h
 rw[h]
end
end Go.Sx
namespace Go.Sx
set_option linter.unusedVariables false
structure Hd where
 a:Option Addr
 c:Nat
def Hd.nil:Hd:=⟨none,0⟩
abbrev Hd.v (h:Hd) (n:Nat):Value:=.slice h.a n h.c
structure Hd.Ok (h:Hd) (n:Nat):Prop where
 nil:h.a=none→n=0
 cap:n≤h.c
theorem Hd.mB:Hd.nil.Ok 0:=⟨fun _=>rfl,Nat.le_refl _⟩
abbrev By (w:World) (h:Hd) (l:List UInt8):Prop:=af w h.a (l.map di)
theorem By.nil (w:World):By w Hd.nil []:=rfl
theorem cB.hd {n:Nat} {a:Option Addr} {cap:Nat} {C L:List Value} (h:cB 1 n a cap C L):(⟨a,cap⟩:Hd).Ok n:=⟨h.cc,h.fit⟩
theorem wrap_i64 {n:Int} (h : -9223372036854775808≤n∧n≤9223372036854775807):IntKind.i64.wrap n=n:=by
 simp only[IntKind.wrap,IntKind.bits,IntKind.signed]
 have:(2:Int) ^ 64=18446744073709551616:=by decide
 have:(2:Int) ^ (64 - 1)=9223372036854775808:=by decide
 simp only[*,Bool.true_and,decide_eq_true_eq]
 split<;>omega
section
variable {P:Program} {aT:dy} {w0:World} {R:Nat→Nat→Prop} {av:Nat→Prop} {bs:List (Nat×Nat)} {cs:List (List Value)} {F:Fx}
end
theorem tT (a:Option Addr) (m sz:Nat):oU a 0 m sz=a:=by
 unfold oU
 split
 · rfl
 · cases a with
   | none=>rfl
   | some ad=>simp[Addr.add]
end Go.Sx
namespace Go.Sx
set_option linter.unusedVariables false
theorem ao.share1 {D:World→Prop} {b:Nat} {C:List Value} {rs:List (Nat×Row)}:ao ⟨D,(b,C)::rs⟩ ⟨fun w=>D w∧af w (some ⟨b,0,none⟩) C,rs⟩:=
 cB.share (sz:=1) (n:=C.length) (cap:=C.length) (a:=some ⟨b,0,none⟩) (r1:=[]) (r2:=rs) (cB.full (by simp))
def ow (w:World):List (Nat×Row)→Prop
 | []=>True
 | (b,.c l)::rs=>af w (some ⟨b,0,none⟩) l∧ow w rs
 | (_,.m _ _)::rs=>True∧ow w rs
 | (_,.o _)::rs=>True∧ow w rs
theorem ao.gB : ∀ {rs:List (Nat×Row)} {D:World→Prop},ao ⟨D,rs⟩ ⟨fun w=>D w∧ow w rs,[]⟩
 | [],D=>ao.imp fun w h=>⟨h,trivial⟩
 | (b,.m es k)::rs,D=>((show ao ⟨D,(b,.m es k)::rs⟩ ⟨D,rs⟩ from ao.of_le ⟨List.sublist_cons_self _ _,fun _ h=>h⟩).trans ao.gB).trans (ao.imp fun w h=>⟨h.1,trivial,h.2⟩)
 | (b,.o x)::rs,D=>((show ao ⟨D,(b,.o x)::rs⟩ ⟨D,rs⟩ from ao.of_le ⟨List.sublist_cons_self _ _,fun _ h=>h⟩).trans ao.gB).trans (ao.imp fun w h=>⟨h.1,trivial,h.2⟩)
 | (b,.c C)::rs,D=>(ao.share1.trans ao.gB).trans (ao.imp fun w h=>⟨h.1.1,h.1.2,h.2⟩)
theorem cB.row {w:World} {sz n b cap:Nat} {C L:List Value} (h:cB sz n (some ⟨b,0,none⟩) cap C L) (hr:af w (some ⟨b,0,none⟩) C):af w (some ⟨b,0,none⟩) L:=by
 rcases h.alt with⟨h1,_⟩ | ⟨b',h1,_,h3⟩
 · cases h1
 · rw[← h3];exact hr.take _
open Go
variable {P:Program} {aT:dy} {w0:World} {R:Nat→Nat→Prop} {av:Nat→Prop} {bs:List (Nat×Nat)} {cs:List (List Value)} {F:Fx}
theorem ar.xu (hT:bt P aT) {t xt ty:TypeId} {ti tx te:TI} {e xe:TypeId} (ht:look aT t=some ti) (hk:ti.k = .slice e) (hx:look aT xt=some tx) (hxk:tx.k = .slice xe) (he:look aT e=some te)
 {a p:Option Addr} {n cap m cx:Nat} {K:KV} (hfit:n≤cap) (hm:m=0) (hM:aG w0 R av bs cs F p [])
 (h:K (.slice a n cap) bs cs F):ar P w0 R av (Builtin.append_ #[t,xt] ty #[.slice a n cap,.slice p m cx]) bs cs F K:=by
 subst hm
 refine cr.2 fun w hst=>?_
 obtain⟨i1,d1,z1,p1,p2,p3,p4,p5,p6,p7,p8⟩:=aD (hT _ _ ht)
 obtain⟨i3,d3,z3,o1,o2,o3,o4,o5,o6,o7,o8⟩:=aD (hT _ _ hx)
 obtain⟨i2,d2,z2,q1,q2,q3,q4,q5,q6,q7,q8⟩:=aD (hT _ _ he)
 rw[p4] at hk
 rw[o4] at hxk
 obtain rfl:=cC hk
 obtain rfl:=cC hxk
 exact⟨_,w,[],cs,_,run_append_fits p2 o2 q1 (m:=0) (M:=[]) hfit (hM w hst) (by simp) (w':=w) (fun ad _=>rfl) (fun _=>rfl),by rw[List.append_nil];exact hst,by rw[List.append_nil];exact h⟩
end Go.Sx
namespace Go.Sx
open Go
variable {P:Program} {aT:dy} {w0:World} {R:Nat→Nat→Prop} {av:Nat→Prop} {bs:List (Nat×Nat)} {cs:List (List Value)} {F F':Fx}
theorem aw.bF {f:FuncId} {vs:List Value} {K:KV} (h:ao F F') (k:aw P w0 R av f vs bs cs F' K):aw P w0 R av f vs bs cs F K:=
 ct.2 ⟨(ct.1 k).1,fun w hst=>(ct.1 k).2 w (h _ _ _ _ _ _ hst)⟩
theorem ar.bF {m:Sem Value} {K:KV} (h:ao F F') (k:ar P w0 R av m bs cs F' K):ar P w0 R av m bs cs F K:=
 cr.2 fun w hst=>cr.1 k w (h _ _ _ _ _ _ hst)
theorem az.bF {c:Code} {tm:List SV} {K:Exit→KT} (h:ao F F') (k:az P w0 R av c tm bs cs F' K):az P w0 R av c tm bs cs F K:=
 bI.2 fun a w hf hst=>bI.1 k a w hf (h _ _ _ _ _ _ hst)
end Go.Sx
