/- Parts of the proof: NyB, FaF, FaG, NyC, FdA, NzG, NyH, NyS, FcA, FbA, FbB, FbC, FbD, FbE, FbF, FaA, FaB, FaC. -/
import Derived.Test.YtfeoedkmndkbjaaGreatDoorQL
import Derived.Test.YtfeoedkmndkbjaaGreatDoorQI
import Derived.Test.YtfeoedkmndkbjaaGreatDoorQK
import Derived.RangeFuncNested
import Derived.RangeFuncBound
import Derived.RangeFuncCalls
import Derived.RangeFuncLeaves
import Derived.Shelf.Abstract
import Derived.Shelf.RegionOpen
import Derived.WalkKit
import Derived.OwnWalkIn
import Derived.TacticsInMore
import Derived.LoopNIn
import Derived.LoopIn
import Derived.Test.YtfeoedkmndkbjaaGreatDoorProg
import Derived.Test.YtfeoedkmndkbjaaGreatDoorQG
namespace Go.Proofs.YtfeoedkmndkbjaaGreatDoor
open Go Go.Sx
set_option maxRecDepth 100000
set_option linter.unusedVariables false
set_option linter.unusedSimpArgs false
structure Made (d e:List UInt8) (at0 k n kind:Nat) (last:List UInt8):Prop where
 ok:aM e=0
 dir:at0∈(T0 d).dl
 k8:k<8
 was : ∀ h:k<((T0 d).E at0).length,((T0 d).E at0)[k].1 = []
 name:cK last=true
 new:db ((T0 d).E at0) last=none
 n32:n<32
 n0:n≠0
 free:rk d n=0
 kd:rk e n=kind
 kinds : ∀ m,m<32→m≠n→rk e m=rk d m
 slots : ∀ m,m<32→m≠n→eh d e m
 es : ∀ m∈(T0 d).dl,m≠at0→(T0 e).E m=(T0 d).E m
 esAt:(T0 e).E at0=((T0 d).E at0).set k (last,n)
 esN:kind=2→(T0 e).E n=List.replicate 8 ([],0)
 cont : ∀ m,m<32→rk d m≠0→m≠at0→ay e m=ay d m
 diff : ∃ x y,∀ i,i/128≠13→i/128≠14+n/8→i/128≠x→i/128≠y→aJ e i=aJ d i
theorem zS {l:List En} {s:List UInt8} {k:Nat} (h:db l s=some k) : ∃ hk:k<l.length,l[k].1=s:=by
 have hk:=fH h
 unfold db at h
 rw[List.findIdx?_eq_some_iff_getElem] at h
 obtain⟨h1,h2,_⟩:=h
 exact⟨h1,by simpa using h2⟩
theorem AL {l:List En} {s:List UInt8}:db l s=none↔∀ e∈l,e.1≠s:=by
 unfold db
 rw[List.findIdx?_eq_none_iff]
 simp
theorem xu {c:List UInt8} (hc:c.length=128) (h : ∀ i,i<128→aJ c i=0) {i:Nat} (hi:i<8):fZ c i=([],0):=
 (uv (c':=c) hc hi (x:=([],0)) (by decide) (fun j hj=>absurd hj (by simp)) (by decide) fun r hr=>by
  rw[u_ (by decide) hr,h _ (by omega)]
  split
  · rfl
  · rw[if_neg (by simp)]).1
theorem vP {c:List UInt8} (hc:c.length=128) (h : ∀ i,i<128→aJ c i=0):eA c 8=List.replicate 8 ([],0):=by
 refine List.ext_getElem (by simp[eA]) fun i h1 h2=>?_
 have hi:i<8:=by simpa [eA] using h1
 simp only[eA,List.getElem_map,List.getElem_range,List.getElem_replicate]
 exact xu hc h hi
theorem pa {c:List UInt8} (hc:c.length=128) (h : ∀ i,i<128→aJ c i=0):cX c=true:=by
 rw[ec]
 have he : ∀ i,i<8→fZ c i=([],0):=fun i hi=>xu hc h hi
 intro i hi
 exact⟨fun k hk _=>h _ (by omega),h _ (by omega),.inl (he i hi),.inl (by rw[he i hi])⟩
theorem yv (d:List UInt8) (n:Nat):(T0 d).E n=eA (ay d n) 8:=rfl
theorem Dd {d:List UInt8} (h38:aM d=0) {kind:Nat} (hk:kind=1∨kind=2) (he:(aN d kind).2.2=0) {at0 k:Nat} {last:List UInt8} (hdl:at0∈(T0 d).dl) (hv:cK last=true)
 (hnew:db ((T0 d).E at0) last=none) (hfk:db ((T0 d).E at0) []=some k) :
 Made d (eX (aN d kind).2.1 at0 k (iF (last,(aN d kind).1))) at0 k (aN d kind).1 kind last:=by
 obtain⟨h0,hG,hE⟩:=bx h38
 obtain⟨g1,g2,n',x',g3,g4,g5,g6,g7,g8⟩:=lp h0 hk he
 obtain⟨f1,⟨x,f2⟩,f3⟩:=qS h0 hk he
 obtain⟨hat1,hat2⟩:=bY.1 hdl
 obtain⟨hk8,hkn⟩:=zS hfk
 rw[(pg d).len] at hk8
 rw[g3] at f2 f3 ⊢
 generalize (aN d kind).2.1=e1 at *
 generalize (aN d kind).1=n1 at *
 subst g3
 have hne:at0≠n1:=fun e=>by rw[e,g6] at hat2;cases hat2
 have hs1 : ∀ m,m<32→m≠n1→pT d e1 m:=fun m hm hmn=>⟨(g8 m hm hmn).1,fun y hy=>((g8 m hm hmn).2 y hy).2⟩
 obtain⟨q1,q2,q3,q4⟩:=dQ (hs1 at0 hat1 hne).slot
 have hc1:=eO h0 g1 hat1 (by omega) (hs1 at0 hat1 hne)
 have hnm:db ((T0 d).E at0) last=none:=hnew
 rw[AL] at hnew
 have hnm2 : ∀ i,i<8→(fZ (ay d at0) i).1≠last:=fun i hi=>hnew _ (List.mem_map.2 ⟨i,List.mem_range.2 hi,rfl⟩)
 obtain⟨w1,w2,w3,w4,w5,w6⟩:=CT g1 hat1 (by rw[q1];exact hat2) hk8 (x:=(last,n1)) (je hv).2 (vU hv) (by show n1<256;omega)
 rw[hc1] at w5 w6
 have hw6:=w6 (hE at0 hdl) (.inr ⟨hv,g5⟩) (.inr fun i hi _=>hnm2 i hi)
 generalize eX e1 at0 k (iF (last,n1))=e at *
 have hkinds : ∀ m,m<32→m≠n1→rk e m=rk d m:=fun m hm hmn=>by
  rw[(dQ (w2 m hm)).1,(dQ (hs1 m hm hmn).slot).1]
 have hkn1:rk e n1=kind:=by rw[(dQ (w2 n1 g4)).1,g7]
 have hcont : ∀ m,m<32→rk d m≠0→m≠at0→ay e m=ay d m:=fun m hm hmk hma=>by
  have hmn:m≠n1:=fun h=>by rw[h] at hmk;exact hmk g6
  rw[eO g1 w1 hm (by rw[(dQ (hs1 m hm hmn).slot).1];exact hmk) (w3 m hm hma),eO h0 g1 hm hmk (hs1 m hm hmn)]
 have hzero:kind=2→(ay e n1).length=128∧∀ i,i<128→aJ (ay e n1) i=0:=fun h2=>by
  obtain⟨d1,d2,_⟩:=js g1 g4 (by rw[g7];exact h2)
  rw[eO g1 w1 g4 (by omega) (w3 n1 g4 (Ne.symm hne))]
  exact⟨d1,fun i hi=>by rw[d2 i hi];exact f3 h2 i hi⟩
 have hes : ∀ m∈(T0 d).dl,m≠at0→(T0 e).E m=(T0 d).E m:=fun m hm hma=>by
  obtain⟨m1,m2⟩:=bY.1 hm
  rw[yv,yv,hcont m m1 (by omega) hma]
 have hesN:kind=2→(T0 e).E n1=List.replicate 8 ([],0):=fun h2=>vP (hzero h2).1 (hzero h2).2
 have hdle : ∀ m,m∈(T0 e).dl↔m∈(T0 d).dl∨(m=n1∧kind=2):=fun m=>by
  rw[bY,bY]
  by_cases hm:m=n1
  · subst hm
    rw[hkn1]
    constructor
    · rintro⟨_,h⟩;exact .inr ⟨rfl,h⟩
    · rintro(⟨_,h⟩ | ⟨_,h⟩)
      · omega
      · exact⟨g4,h⟩
  · constructor
    · rintro⟨a,b⟩
      exact .inl ⟨a,by rw[← hkinds m a hm];exact b⟩
    · rintro(⟨a,b⟩ | ⟨a,_⟩)
      · exact⟨a,by rw[hkinds m a hm];exact b⟩
      · exact absurd a hm
 have hlast:last≠[]:=fun h=>by rw[h] at hv;cases hv
 have hEl:k<((T0 d).E at0).length:=by rw[(pg d).len];exact hk8
 have hchAt:((T0 e).ch at0).Perm (n1::(T0 d).ch at0):=by
  rw[q9 ((hdle at0).2 (.inl hdl)),q9 hdl,w5]
  exact zN (l:=eA (ay d at0) 8) hEl hkn (x:=(last,n1)) hlast
 have hch : ∀ m∈(T0 d).dl,m≠at0→(T0 e).ch m=(T0 d).ch m:=fun m hm hma=>by
  rw[(T0 e).kS ((hdle m).2 (.inl hm)),(T0 d).kS hm,hes m hm hma]
 have hchN:(T0 e).ch n1 = []:=by
  by_cases h2:kind=2
  · rw[(T0 e).kS ((hdle n1).2 (.inr ⟨rfl,h2⟩)),hesN h2]
    rfl
  · exact(T0 e).kE fun h=>by
     rcases(hdle n1).1 h with h | h
     · have:=(bY.1 h).2;omega
     · exact h2 h.2
 have hmem : ∀ m x,x∈(T0 e).ch m↔x∈(T0 d).ch m∨(m=at0∧x=n1):=fun m x=>by
  by_cases hma:m=at0
  · subst hma
    rw[hchAt.mem_iff,List.mem_cons]
    constructor
    · rintro(h | h)
      · exact .inr ⟨rfl,h⟩
      · exact .inl h
    · rintro(h | ⟨_,h⟩)
      · exact .inr h
      · exact .inl h
  · by_cases hmd:m∈(T0 d).dl
    · rw[hch m hmd hma]
      simp[hma]
    · rw[(T0 d).kE hmd]
      have:(T0 e).ch m = []:=by
       by_cases hmn:m=n1
       · rw[hmn];exact hchN
       · exact(T0 e).kE fun h=>by
          rcases(hdle m).1 h with h | h
          · exact hmd h
          · exact hmn h.1
      rw[this]
      simp[hma]
 have hin : ∀ m x,x∈(T0 d).ch m→x≠0∧x<32∧rk d x≠0∧x≠n1:=fun m x hx=>by
  by_cases hmd:m∈(T0 d).dl
  · obtain⟨a,b,c⟩:=hG.fine.ok m hmd x hx
    exact⟨a,b,c,fun h=>by rw[h] at c;exact c g6⟩
  · rw[(T0 d).kE hmd] at hx
    cases hx
 have hfine:(T0 e).vZ:=by
  refine⟨fun m hm x hx=>?_,fun m hm=>?_,fun m hm m' hm' x hx hx'=>?_⟩
  · rcases(hmem m x).1 hx with h | ⟨_,h⟩
    · obtain⟨a,b,c,e'⟩:=hin m x h
      exact⟨a,b,by show rk e x≠0;rw[hkinds x b e'];exact c⟩
    · subst h
      exact⟨g5,g4,by show rk e x≠0;rw[hkn1];omega⟩
  · by_cases hma:m=at0
    · subst hma
      refine hchAt.nodup_iff.2 (List.nodup_cons.2 ⟨fun h=>(hin _ _ h).2.2.2 rfl,hG.fine.nd m hdl⟩)
    · by_cases hmd:m∈(T0 d).dl
      · rw[hch m hmd hma]
        exact hG.fine.nd m hmd
      · rcases(hdle m).1 hm with h | h
        · exact absurd h hmd
        · rw[h.1,hchN]
          exact List.nodup_nil
  · have hdd : ∀ m y,y∈(T0 d).ch m→m∈(T0 d).dl:=fun m y hy=>Classical.byContradiction fun h=>by
     rw[(T0 d).kE h] at hy
     cases hy
    rcases(hmem m x).1 hx with h | ⟨h,h'⟩
    · rcases(hmem m' x).1 hx' with h2 | ⟨_,h2⟩
      · exact hG.fine.one m (hdd m x h) m' (hdd m' x h2) x h h2
      · exact absurd h2 (hin m x h).2.2.2
    · rcases(hmem m' x).1 hx' with h2 | ⟨h2,_⟩
      · exact absurd h' (hin m' x h2).2.2.2
      · rw[h,h2]
 have hrch : ∀ m,DF (T0 d).ch m→DF (T0 e).ch m:=fun m h=>by
  induction h with
  | root=>exact .root
  | step _ hx ih=>exact .step ih ((hmem _ _).2 (.inl hx))
 have hok:aM e=0:=by
  refine rL w1 (fun m hm=>?_) hfine fun m hm hmk=>?_
  · rcases(hdle m).1 hm with h | ⟨h,h2⟩
    · by_cases hma:m=at0
      · rw[hma];exact hw6
      · obtain⟨m1,m2⟩:=bY.1 h
        rw[hcont m m1 (by omega) hma]
        exact hE m h
    · rw[h]
      exact pa (hzero h2).1 (hzero h2).2
  · by_cases hmn:m=n1
    · rw[hmn]
      exact .step (hrch at0 (ru h38 hat1 (by omega))) ((hmem _ _).2 (.inr ⟨rfl,rfl⟩))
    · exact hrch m (ru h38 hm (by rw[← hkinds m hm hmn];exact hmk))
 exact⟨hok,hdl,hk8,fun h=>hkn,hv,hnm,g4,g5,g6,hkn1,hkinds,fun m hm hmn r hr=>by rw[w2 m hm r hr,(hs1 m hm hmn).slot r hr],hes,w5,hesN,hcont,⟨x,rb e1 at0 0,fun i a b c c'=>by rw[w4 i c',f2 i a b c]⟩⟩
theorem rj {d:List UInt8} (h38:aM d=0) {kind:Nat} (hk:kind=1∨kind=2) (he:(aN d kind).2.2=0) {at0 k:Nat} {last:List UInt8} (hdl:at0∈(T0 d).dl) (hv:cK last=true)
 (hfe:db ((T0 d).E at0) []=some k):(bQ (aN d kind).2.1 at0 (il (((T0 d).E at0).set k (last,(aN d kind).1)))).1=eX (aN d kind).2.1 at0 k (iF (last,(aN d kind).1)):=by
 obtain⟨h0,hG,hE⟩:=bx h38
 have hkl:=fH hfe
 rw[(pg d).len] at hkl
 obtain⟨g1,g2,n',x',g3,g4,g5,g6,g7,g8⟩:=lp h0 hk he
 obtain⟨hat1,hat2⟩:=bY.1 hdl
 have hne2:at0≠n':=fun e=>by
  rw[e,g6] at hat2
  cases hat2
 obtain⟨hss,hbb⟩:=g8 at0 hat1 hne2
 obtain⟨q1,q2,q3,q4⟩:=dQ hss
 obtain⟨c1,c2,c3,c4,c5,c6⟩:=js h0 hat1 hat2
 have hw:=jQ g1 hat1 (by rw[q1];exact hat2) c1 (ec.1 (hE at0 hdl)) (fun i hi=>by
  rw[q3 0 (by decide),(hbb (rb d at0 0) c5).2 _ (by omega) (by omega),c2 i hi]) hkl (x:=(last,(aN d kind).1)) (je hv).2
 rw[yv,hw]
theorem n_ {d p:List UInt8} {kind:Int} (h:(bE d p kind).2.2=0):aM d=0∧(kind=1∨kind=2)∧∃ names at0 k,aL p=(names,0)∧names≠[]∧aT d names.dropLast 0=(at0,0)∧
 db ((T0 d).E at0) []=some k∧fy d=some (bE d p kind).1∧Made d (bE d p kind).2.1 at0 k (bE d p kind).1 kind.toNat (names.getLastD []):=by
 have hsn:=dH p
 have hes:=fv p
 unfold bE at h ⊢
 by_cases h38:aM d=0
 rotate_left
 · rw[if_pos h38] at h
   exact absurd h h38
 have hne : ¬ aM d≠0:=by rw[h38];simp
 rw[if_neg hne] at h ⊢
 obtain⟨h0,hG,hE⟩:=bx h38
 generalize aL p=sp at *
 obtain⟨names,se⟩:=sp
 dsimp only at hsn hes h ⊢
 by_cases hs:se≠0
 · rw[if_pos hs] at h;cases h
 rw[if_neg hs] at h ⊢
 by_cases hk:kind≠1∧kind≠2
 · rw[if_pos hk] at h;cases h
 rw[if_neg hk] at h ⊢
 by_cases hn:names = []
 · rw[if_pos hn] at h;cases h
 rw[if_neg hn] at h ⊢
 have hvn : ∀ s∈names,s≠[]:=fun s hs h=>by
  have:=hsn s hs
  rw[h] at this
  cases this
 obtain⟨hr1,hr2⟩:=bY.1 (j2 h0)
 obtain⟨hw1,hw2⟩:=dY h38 names.dropLast 0 hr1 (by omega) fun s hs=>hvn s (List.dropLast_subset _ hs)
 have hlast:=eG hn
 have hlv:cK (names.getLastD [])=true:=hsn _ (List.mem_of_getElem? hlast)
 generalize hfo:aT d names.dropLast 0=fr at *
 obtain⟨at0,fe⟩:=fr
 dsimp only at hw2 h ⊢
 by_cases hf:fe≠0
 · rw[if_pos hf] at h;exact absurd h hf
 rw[if_neg hf] at h ⊢
 obtain⟨ha1,ha2⟩:=hw2 (by omega)
 by_cases hdl:at0∈(T0 d).dl
 rotate_left
 · rw[jw h38 ha1 ha2 hdl] at h
   cases h
 rw[fI h38 hdl] at h ⊢
 dsimp only at h ⊢
 rw[if_neg (show ¬ ((0:Nat)≠0) by decide)] at h ⊢
 by_cases hq:db ((T0 d).E at0) (names.getLastD [])≠none
 · rw[if_pos hq] at h;cases h
 rw[if_neg hq] at h ⊢
 cases hfe:db ((T0 d).E at0) [] with
 | none=>rw[hfe] at h;cases h
 | some k=>
  rw[hfe] at h
  dsimp only at h ⊢
  by_cases ha:(aN d kind.toNat).2.2≠0
  · rw[if_pos ha] at h;exact absurd h ha
  rw[if_neg ha]
  have hkk:kind.toNat=1∨kind.toNat=2:=by omega
  have hm:=Dd h38 hkk (by omega) hdl hlv (by simpa using hq) hfe
  obtain⟨f1,-,-⟩:=qS h0 hkk (by omega)
  obtain⟨g1,g2,n',x',g3,g4,g5,g6,g7,g8⟩:=lp h0 hkk (by omega)
  have hw:=rj h38 hkk (by omega) hdl hlv hfe
  rw[hw]
  exact⟨h38,by omega,names,at0,k,by rw[show se=0 by omega],hn,by rw[hfo,show fe=0 by omega],hfe,f1,hm⟩
set_option maxHeartbeats 4000000
theorem pH (z:Int) : ∃ a:Nat,IntKind.u64.wrap z=(a:Int):=by
 have h:0≤IntKind.u64.wrap z:=by
  simp[IntKind.wrap,IntKind.bits,IntKind.signed]
  omega
 exact⟨(IntKind.u64.wrap z).toNat,by omega⟩
def pv (h b:Nat):Nat:=(IntKind.u64.wrap (Sx.bits .xor .u64 (h:Int) (IntKind.u64.wrap (b:Int))*15111065706836454659)).toNat
def lT (h b:Nat):Nat:=(Sx.bits .xor .u64 (pv h b:Int) ((pv h b/2 ^ 29:Nat):Int)).toNat
def gv (h:Nat) (l:List UInt8):Nat:=l.foldl (fun h c=>lT h c.toNat) h
def fR (n:Nat):List UInt8:=(List.range 8).map fun j=>UInt8.ofNat (n/256 ^ j)
def ofM (l:List UInt8):Nat:=gv (gv 125762890854254 l) (fR l.length)
def gj (n k:Nat):List UInt8:=(List.range k).map fun i=>UInt8.ofNat (n/2 ^ (8*(k - 1 - i)))
attribute [irreducible] lT pv
theorem rq {h:Nat} {l:List UInt8} {i:Nat} (hi:i<l.length):gv h (l.take (i+1))=lT (gv h (l.take i)) (aJ l i):=by
 have hb:aJ l i=l[i].toNat:=by
  unfold aJ
  rw[List.getD_eq_getElem?_getD,List.getElem?_eq_getElem hi]
  rfl
 unfold gv
 rw[List.take_succ_eq_append_getElem hi,List.foldl_append,List.foldl_cons,List.foldl_nil,hb]
theorem xC (h b:Nat):af Tryz.prog 170 [.int .u64 (h:Int),.int .u8 (b:Int)] (fun _=>True) (fun v F=>v = .int .u64 (lT h b:Int)):=by
 have hm:pv h b=(IntKind.u64.wrap (Sx.bits .xor .u64 (h:Int) (IntKind.u64.wrap (b:Int))*15111065706836454659)).toNat:=by unfold pv;rfl
 have hs:lT h b=(Sx.bits .xor .u64 (pv h b:Int) ((pv h b/2 ^ 29:Nat):Int)).toNat:=by unfold lT;rfl
 generalize lT h b=sm at *
 generalize pv h b=mm at *
 refine af.aF ab Tryz.func170 rfl (by decide) (n:=Tryz.f170.ntmps - 2) rfl rfl fun w0 av=>?_
 conv=>whnf
 repeat (refine aa.of ?_;conv=>whnf)
 obtain⟨a,ha⟩:=pH (Sx.bits .xor .u64 (h:Int) (IntKind.u64.wrap (b:Int))*15111065706836454659)
 generalize IntKind.u64.wrap (Sx.bits .xor .u64 (h:Int) (IntKind.u64.wrap (b:Int))*15111065706836454659)=q at *
 subst ha
 rw[Int.toNat_natCast] at hm
 subst hm
 refine aj.ah (ai.shr (a:=mm) (j:=29) rfl (by decide) ?_)
 conv=>whnf
 repeat (refine aa.of ?_;conv=>whnf)
 obtain⟨c,hc⟩ : ∃ c:Nat,Sx.bits .xor .u64 (mm:Int) ((mm/2 ^ 29:Nat):Int)=(c:Int):=pH _
 rw[hc,Int.toNat_natCast] at hs
 exact⟨_,aq.refl _,by rw[hs,← hc]⟩
theorem qz (h:Nat) (l:List UInt8) (k:Hd) (hk:k.Ok l.length) (hl:l.length≤1000000):af Tryz.prog 152 [.int .u64 (h:Int),k.v l.length] (fun w=>By w k l) (fun v F=>v = .int .u64 (gv h l:Int)):=by
 refine af.aF ab Tryz.func152 rfl (by decide) (n:=Tryz.f152.ntmps - 2) rfl rfl fun w0 av=>?_
 conv=>whnf
 refine aI.loop ab (ι:=Nat×Nat) ([0,5]++List.range' 6 12) (fun x=>x.1≤l.length∧x.2=gv h (l.take x.1))
  (fun x=>[(0,.v (.int .u64 (x.2:Int))),(5,.v (.int .i64 (x.1:Int)))]) (fun _=>[]) (fun _=>⟨fun w=>By w k l,[]⟩)
  (fun x=>l.length - x.1) (0,h) ⟨Nat.zero_le _,rfl⟩ ?_ rfl (aq.refl _) fun x hx=>?_
 · conv=>whnf
   repeat (first | exact aw.nil | refine aw.any ?_ | refine aw.cons ?_)
 obtain⟨i,a⟩:=x
 obtain⟨hi,ha⟩:=hx
 dsimp only at hi ha ⊢
 conv=>whnf
 refine aH.split (fun hlt=>?_) (fun hlt=>?_)
 · have hlt':i<l.length:=by
    simp only[au,decide_eq_true_eq] at hlt
    omega
   conv=>whnf
   refine aj.ah (ai.cL ab (t:=23) rfl rfl rfl rfl i rfl hlt' hk fun ad had=>?_)
   conv=>whnf
   refine aj.ah (ai.cy ab (t:=5) rfl rfl had (.fact fun w h=>h) rfl hlt' ?_)
   conv=>whnf
   have hft:=rq (h:=h) hlt'
   rw[← ha] at hft
   refine ak.val (xC a (aJ l i)) (fun w hw=>trivial) (fun v D hv=>?_)
   rw[← hft] at hv
   subst hv
   conv=>whnf
   refine⟨(i+1,gv h (l.take (i+1))),⟨⟨hlt',rfl⟩,by dsimp only;omega⟩,?_,?_,aq.refl _⟩
   · conv=>whnf
     refine⟨?_,rfl⟩
     repeat (first | exact aw.nil | refine aw.any ?_ | refine aw.cons ?_ | refine aw.eq (by rw[wrap_i64 (by omega)];rfl) ?_)
   · conv=>whnf
     exact trivial
 · have hie:i=l.length:=by
    simp only[au,decide_eq_false_iff_not] at hlt
    omega
   subst hie
   rw[List.take_length] at ha
   subst ha
   conv=>whnf
   exact⟨_,aq.refl _,rfl⟩
theorem ofNat_mod (q:Nat) : [UInt8.ofNat (q%256)] = [UInt8.ofNat q]:=by
 congr 1
 apply UInt8.toNat_inj.1
 rw[UInt8.toNat_ofNat',UInt8.toNat_ofNat']
 omega
theorem pU {x:UInt8} : ∀ v∈[ao x],aO v=true:=by
 intro v hv
 rw[List.mem_singleton.1 hv]
 rfl
theorem xq (h:Nat) (hh:h<1000000000):af Tryz.prog 153 [.int .u64 (h:Int)] (fun _=>True) (fun v F=>lq (fR h) v F):=by
 refine af.aF ab Tryz.func153 rfl (by decide) (n:=Tryz.f153.ntmps - 1) rfl rfl fun w0 av=>?_
 conv=>whnf
 refine aI.loop ab (ι:=Nat×Nat×Option Addr×Nat×List Value×List UInt8) ([0,3,4]++List.range' 5 12) (fun x=>x.1≤8∧x.2.2.2.2.2=(List.range x.1).map (fun j=>UInt8.ofNat (h/256 ^ j))∧x.2.1=h/256 ^ x.1∧Go.Sx.Own 1 x.1 x.2.2.1 x.2.2.2.1 x.2.2.2.2.1 (x.2.2.2.2.2.map ao))
  (fun x=>[(0,.v (.int .u64 (x.2.1:Int))),(3,.v (.slice x.2.2.1 x.1 x.2.2.2.1)),(4,.v (.int .i64 (x.1:Int)))]) (fun _=>[]) (fun x=>⟨fun _=>True,aR x.2.2.1 x.2.2.2.2.1⟩)
  (fun x=>8 - x.1) (0,h,none,0,[],[]) ⟨Nat.zero_le _,rfl,by simp,Go.Sx.Own.nil 1⟩ ?_ rfl (aq.of_le ⟨by simp[aR],fun w hw=>hw⟩) fun x hx=>?_
 · conv=>whnf
   repeat (first | exact aw.nil | refine aw.any ?_ | refine aw.cons ?_)
 obtain⟨i,q,a,cap,C,l⟩:=x
 obtain⟨hi,hll,hq,hO⟩:=hx
 dsimp only at hi hll hq hO ⊢
 have hqh:q≤h:=by rw[hq];exact Nat.div_le_self _ _
 conv=>whnf
 refine aH.split (fun hlt=>?_) (fun hlt=>?_)
 · have hlt':i<8:=by
    simp only[au,decide_eq_true_eq] at hlt
    omega
   have e1:Int.tmod (q:Int) (Int.ofNat 256)=((q%256:Nat):Int):=dL q 256
   conv=>whnf
   repeat (refine aa.of ?_;conv=>whnf)
   rw[e1,lG]
   refine aj.build ab (t:=23) rfl rfl rfl [ao (UInt8.ofNat (q%256))] rfl rfl (by simp[ao,Value.cells]) (by decide) fun b0=>?_
   conv=>whnf
   repeat (refine aa.of ?_;conv=>whnf)
   refine aj.c_ (F':=⟨fun _=>True,[]++aR a C ++ [(b0,Row.c [ao (UInt8.ofNat (q%256))])]⟩) (aq.of_le ⟨by simp[ao,Value.cells],fun w hw=>hw⟩) ?_
   refine aj.append ab (t:=23) (xt:=23) rfl rfl rfl rfl rfl rfl (r1:=[]) (r2:=[(b0,Row.c [ao (UInt8.ofNat (q%256))])]) (M:=[ao (UInt8.ofNat (q%256))]) hO (bp.row (by simp)) rfl pU (by omega) (by simp;omega) fun a' c' C' hO'=>?_
   conv=>whnf
   repeat (refine aa.of ?_;conv=>whnf)
   have hq':IntKind.u64.wrap (Int.tdiv (q:Int) (Int.ofNat 256))=((q/256:Nat):Int):=by
    have e3:Int.tdiv (q:Int) (Int.ofNat 256)=((q/256:Nat):Int):=rfl
    rw[e3]
    simp[IntKind.wrap,IntKind.bits,IntKind.signed]
    omega
   refine⟨(i+1,q/256,a',c',C',l ++ [UInt8.ofNat (q%256)]),⟨⟨hlt',?_,?_,?_⟩,by dsimp only;omega⟩,?_,?_,?_⟩
   · dsimp only
     rw[List.range_succ,List.map_append,List.map_singleton,hll,← hq]
     congr 1
     exact ofNat_mod q
   · dsimp only
     rw[hq,Nat.div_div_eq_div_mul,Nat.pow_succ]
   · dsimp only
     rw[List.map_append]
     exact hO'
   · conv=>whnf
     refine⟨?_,rfl⟩
     repeat (first | exact aw.nil | refine aw.any ?_ | refine aw.cons ?_ | refine aw.eq (by rw[wrap_i64 (by omega)];rfl) ?_ | refine aw.eq (congrArg (fun z=>SV.v (Value.int IntKind.u64 z)) hq') ?_)
   · conv=>whnf
     exact trivial
   · exact aq.of_le ⟨by simp,fun w hw=>hw⟩
 · have hie:i=8:=by
    simp only[au,decide_eq_false_iff_not] at hlt
    omega
   subst hie
   conv=>whnf
   have hl8:l.length=8:=by rw[hll];simp
   have hle:fR h=l:=hll.symm
   rw[hle]
   refine⟨⟨fun w=>aB w a (l.map ao),[]⟩,(Go.Sx.Own.gives hO).trans (aq.imp fun w hw=>hw.2),⟨a,cap⟩,?_,?_,rfl⟩
   · rw[hl8]
   · rw[hl8]
     exact hO.hd
theorem B0 (l:List UInt8) (k:Hd) (hk:k.Ok l.length) (hl:l.length≤1000000):af Tryz.prog 129 [k.v l.length] (fun w=>By w k l) (fun v F=>v = .int .u64 (ofM l:Int)):=by
 have hof:ofM l=gv (gv 125762890854254 l) (fR l.length):=rfl
 have hml:(fR l.length).length=8:=by simp[fR]
 generalize ofM l=om at *
 refine af.aF ab Tryz.func129 rfl (by decide) (n:=Tryz.f129.ntmps - 1) rfl rfl fun w0 av=>?_
 conv=>whnf
 have hf1:=qz 125762890854254 l k hk hl
 generalize gv 125762890854254 l=a at *
 refine ak.val hf1 (fun w hw=>hw) (fun v D hv=>?_)
 subst hv
 conv=>whnf
 repeat (refine aa.of ?_;conv=>whnf)
 have hn:IntKind.u64.wrap (l.length:Int)=(l.length:Int):=by
  simp[IntKind.wrap,IntKind.bits,IntKind.signed]
  omega
 generalize IntKind.u64.wrap (l.length:Int)=q at *
 subst hn
 have he:=xq l.length (by omega)
 generalize fR l.length=m at *
 refine ak.pure he (fun w hw=>trivial) (fun v D hv=>?_)
 obtain⟨km,rfl,hkm,rfl⟩:=hv
 conv=>whnf
 repeat (refine aa.of ?_;conv=>whnf)
 refine ak.val (qz a m km hkm (by omega)) (fun w hw=>hw.2) (fun v D hv=>?_)
 rw[← hof] at hv
 subst hv
 conv=>whnf
 repeat (refine aa.of ?_;conv=>whnf)
 exact⟨_,aq.refl _,rfl⟩
theorem nr (n k:Nat) (hk:k≤8):af Tryz.prog 128 [.int .u64 (n:Int),.int .i64 (k:Int)] (fun _=>True) (fun v F=>lq (gj n k) v F):=by
 refine af.aF ab Tryz.func128 rfl (by decide) (n:=Tryz.f128.ntmps - 2) rfl rfl fun w0 av=>?_
 have e0:IntKind.i64.wrap ((k:Int) - 1)=(k:Int) - 1:=wrap_i64 (by omega)
 conv=>whnf
 refine aI.loop ab (ι:=Nat×Option Addr×Nat×List Value×List UInt8) ([5,6]++List.range' 9 12) (fun x=>x.1≤k∧x.2.2.2.2=(List.range x.1).map (fun i=>UInt8.ofNat (n/2 ^ (8*(k - 1 - i))))∧Go.Sx.Own 1 x.1 x.2.1 x.2.2.1 x.2.2.2.1 (x.2.2.2.2.map ao))
  (fun x=>[(5,.v (.slice x.2.1 x.1 x.2.2.1)),(6,.v (.int .i64 ((k:Int) - 1 - (x.1:Int))))]) (fun _=>[]) (fun x=>⟨fun _=>True,aR x.2.1 x.2.2.2.1⟩)
  (fun x=>k - x.1) (0,none,0,[],[]) ⟨Nat.zero_le _,rfl,Go.Sx.Own.nil 1⟩ ?_ rfl (aq.of_le ⟨by simp[aR],fun w hw=>hw⟩) fun x hx=>?_
 · conv=>whnf
   repeat (first | exact aw.nil | refine aw.any ?_ | refine aw.cons ?_ | refine aw.eq (by rw[e0];simp) ?_)
 obtain⟨i,a,cap,C,l⟩:=x
 obtain⟨hi,hll,hO⟩:=hx
 dsimp only at hi hll hO ⊢
 obtain⟨z,hz⟩ : ∃ z:Int,z=(k:Int) - 1 - (i:Int):=⟨_,rfl⟩
 rw[← hz]
 conv=>whnf
 refine aH.split (fun hlt=>?_) (fun hlt=>?_)
 · have hlt':i<k:=by
    simp only[bI,decide_eq_true_eq] at hlt
    omega
   have e1:IntKind.i64.wrap (8*z)=((8*(k - 1 - i):Nat):Int):=by rw[wrap_i64 (by omega)];omega
   conv=>whnf
   repeat (refine aa.of ?_;conv=>whnf)
   refine aj.ah (ai.shr (a:=n) (j:=8*(k - 1 - i)) e1 (by show _≤64;omega) ?_)
   conv=>whnf
   repeat (refine aa.of ?_;conv=>whnf)
   generalize hqq:n/2 ^ (8*(k - 1 - i))=q
   rw[lG]
   refine aj.build ab (t:=23) rfl rfl rfl [ao (UInt8.ofNat q)] rfl rfl (by simp[ao,Value.cells]) (by decide) fun b0=>?_
   conv=>whnf
   repeat (refine aa.of ?_;conv=>whnf)
   refine aj.c_ (F':=⟨fun _=>True,[]++aR a C ++ [(b0,Row.c [ao (UInt8.ofNat q)])]⟩) (aq.of_le ⟨by simp[ao,Value.cells],fun w hw=>hw⟩) ?_
   refine aj.append ab (t:=23) (xt:=23) rfl rfl rfl rfl rfl rfl (r1:=[]) (r2:=[(b0,Row.c [ao (UInt8.ofNat q)])]) (M:=[ao (UInt8.ofNat q)]) hO (bp.row (by simp)) rfl pU (by omega) (by simp;omega) fun a' c' C' hO'=>?_
   conv=>whnf
   repeat (refine aa.of ?_;conv=>whnf)
   have e2:IntKind.i64.wrap (z - 1)=(k:Int) - 1 - ((i+1:Nat):Int):=by rw[wrap_i64 (by omega)];omega
   refine⟨(i+1,a',c',C',l ++ [UInt8.ofNat q]),⟨⟨hlt',?_,?_⟩,by dsimp only;omega⟩,?_,?_,?_⟩
   · dsimp only
     rw[List.range_succ,List.map_append,hll,← hqq]
     rfl
   · dsimp only
     rw[List.map_append]
     exact hO'
   · conv=>whnf
     refine⟨?_,rfl⟩
     repeat (first | exact aw.nil | refine aw.any ?_ | refine aw.cons ?_ | refine aw.eq (by rw[wrap_i64 (by omega)];rfl) ?_ | refine aw.eq (congrArg (fun z=>SV.v (Value.int IntKind.i64 z)) e2) ?_)
   · conv=>whnf
     exact trivial
   · exact aq.of_le ⟨by simp,fun w hw=>hw⟩
 · have hie:i=k:=by
    simp only[bI,decide_eq_false_iff_not] at hlt
    omega
   subst hie
   conv=>whnf
   have hlk:l.length=i:=by rw[hll];simp
   have hle:gj n i=l:=hll.symm
   rw[hle]
   refine⟨⟨fun w=>aB w a (l.map ao),[]⟩,(Go.Sx.Own.gives hO).trans (aq.imp fun w hw=>hw.2),⟨a,cap⟩,?_,?_,rfl⟩
   · rw[hlk]
   · rw[hlk]
     exact hO.hd
structure m9 (d:List UInt8):Prop where
 len:d.length=12288
 ino : ∀ m,1792≤m→m<1808→aJ d m=aJ (fG 2 128 fun i=>if i=0 then 18 else 0) (m - 1792)
 bits : ∀ m,1664≤m→m<1676→aJ d m=aJ (bZ (List.range 19)) (m - 1664)
 magic : ∀ m,m<4→aJ d m=aJ [82,70,83,49] m
 zero : ∀ m,4≤m→m<128∨256≤m→m<1664∨1676≤m→m<1792∨1808≤m→aJ d m=0
def kR:List UInt8:=[74,82,78,48] ++ [UInt8.ofNat 0]++List.replicate 11 0++gj 0 4
def jb:List UInt8:=kR++gj (ofM kR) 8++List.replicate 100 0
theorem vi (seq:Int) (hseq:seq=0) (n c:Nat) (hn:n=0):af Tryz.prog 84 [.int .i64 seq,.slice none n c,.slice none 0 0] (fun _=>True) (fun v F=>∃ l,l=jb∧l.length=128∧lq l v F):=by
 have hH:jb=kR++gj (ofM kR) 8++List.replicate 100 0:=rfl
 have hP:kR = [74,82,78,48] ++ [UInt8.ofNat 0]++List.replicate 11 0++gj 0 4:=rfl
 have hm4:(gj 0 4).length=4:=by simp[gj]
 have hm8 : ∀ s,(gj s 8).length=8:=fun s=>by simp[gj]
 have hn4:=nr 0 4 (by decide)
 generalize jb=HH at *
 generalize kR=PP at *
 generalize gj 0 4=m4 at *
 refine af.aF ab Tryz.func84 rfl (by decide) (n:=Tryz.f84.ntmps - 3) rfl rfl fun w0 av=>?_
 obtain⟨L0,hL0⟩ : ∃ L:List UInt8,L = [74,82,78,48]:=⟨_,rfl⟩
 have hl0:L0.length=4:=by rw[hL0];rfl
 conv=>whnf
 repeat (refine aa.of ?_;conv=>whnf)
 refine aj.build ab (t:=23) rfl rfl rfl (L0.map ao) (by rw[hL0];rfl) (by rw[hL0];rfl) (by rw[hL0];decide) (by decide) fun b0=>?_
 have hfm : ∀ l:List UInt8,(l.map ao).flatMap (fun v=>v.cells.toList)=l.map ao:=by
  intro l
  induction l with
  | nil=>rfl
  | cons x l ih=>rw[List.map_cons,List.flatMap_cons,ih];rfl
 rw[hfm]
 conv=>whnf
 repeat (refine aa.of ?_;conv=>whnf)
 refine aj.lit ab (t:=23) rfl rfl rfl rfl (r1:=[]) (r2:=[]) (C:=L0.map ao) ?_
 conv=>whnf
 repeat (refine aa.of ?_;conv=>whnf)
 refine aH.no (by simp[bP,hn]) ?_
 conv=>whnf
 repeat (refine aa.of ?_;conv=>whnf)
 generalize hx0:IntKind.u8.wrap (n:Int)=x0
 have hx1:Value.int .u8 x0=ao (UInt8.ofNat n):=by rw[← hx0,lG]
 rw[hx1]
 clear hx0 hx1
 obtain⟨x1,hx1⟩ : ∃ x,x=UInt8.ofNat n:=⟨_,rfl⟩
 rw[← hx1]
 refine aj.build ab (t:=23) rfl rfl rfl [ao x1] rfl rfl (by simp[ao,Value.cells]) (by decide) fun b1=>?_
 conv=>whnf
 repeat (refine aa.of ?_;conv=>whnf)
 refine aj.lK ab (t:=23) (xt:=23) rfl rfl rfl rfl rfl rfl (L:=L0.map ao) (M:=[ao x1]) (.fact fun w hw=>hw.2) (by simp[hl0]) (bp.row (by simp[ao,Value.cells])) rfl (by decide) (by decide) (by decide) fun b2 c2 C2 hO2=>?_
 have hO2:Go.Sx.Own 1 5 (some ⟨b2,0,none⟩) c2 C2 ((L0 ++ [x1]).map ao):=by rw[List.map_append];exact hO2
 have hl2:(L0 ++ [x1]).length=5:=by simp[hl0]
 rw[hn] at hx1
 have hP2:PP=(L0 ++ [x1])++List.replicate 11 0++m4:=by rw[hP,hL0,hx1]
 clear hP hL0 hx1
 generalize L0 ++ [x1]=L2 at *
 conv=>whnf
 refine aI.loop ab (ι:=Nat×Option Addr×Nat×List Value×List UInt8) ([7,8,9]++List.range' 24 18) (fun x=>x.1≤11∧x.2.2.2.2=L2++List.replicate x.1 0∧x.2.2.2.2.length=5+x.1∧Go.Sx.Own 1 (5+x.1) x.2.1 x.2.2.1 x.2.2.2.1 (x.2.2.2.2.map ao))
  (fun x=>[(7,.v (.slice x.2.1 (5+x.1) x.2.2.1)),(8,.v (.int .i64 (x.1:Int)))]) (fun _=>[]) (fun x=>⟨fun _=>True,aR x.2.1 x.2.2.2.1⟩)
  (fun x=>11 - x.1) (0,some ⟨b2,0,none⟩,c2,C2,L2) ⟨Nat.zero_le _,by simp,hl2,hO2⟩ ?_ rfl (aq.of_le ⟨by simp[aR],fun w hw=>trivial⟩) fun x hx=>?_
 · conv=>whnf
   repeat (first | exact aw.nil | refine aw.any ?_ | refine aw.cons ?_)
 clear hO2 hl2 hl0
 obtain⟨i,a,cap,C,l⟩:=x
 obtain⟨hi,hle,hll,hO⟩:=hx
 dsimp only at hi hle hll hO ⊢
 conv=>whnf
 refine aH.split (fun hlt=>?_) (fun hlt=>?_)
 · have hlt':i<11:=by
    simp only[au,decide_eq_true_eq] at hlt
    omega
   conv=>whnf
   repeat (refine aa.of ?_;conv=>whnf)
   refine aH.no (by simp[au,hn];try omega) ?_
   conv=>whnf
   repeat (refine aa.of ?_;conv=>whnf)
   refine aj.build ab (t:=23) rfl rfl rfl [ao 0] rfl rfl (by simp[ao,Value.cells]) (by decide) fun b3=>?_
   conv=>whnf
   repeat (refine aa.of ?_;conv=>whnf)
   refine aj.c_ (F':=⟨fun _=>True,[]++aR a C ++ [(b3,Row.c [ao 0])]⟩) (aq.of_le ⟨by simp[ao,Value.cells],fun w hw=>hw⟩) ?_
   refine aj.append ab (t:=23) (xt:=23) rfl rfl rfl rfl rfl rfl (r1:=[]) (r2:=[(b3,Row.c [ao 0])]) (M:=[ao 0]) hO (bp.row (by simp)) rfl pU (by omega) (by simp;omega) fun a' c' C' hO'=>?_
   conv=>whnf
   repeat (refine aa.of ?_;conv=>whnf)
   refine⟨(i+1,a',c',C',l ++ [0]),⟨⟨hlt',?_,?_,?_⟩,by dsimp only;omega⟩,?_,?_,?_⟩
   · dsimp only
     rw[hle,List.replicate_succ',List.append_assoc]
   · dsimp only
     simp[hll]
     omega
   · dsimp only
     rw[List.map_append]
     exact hO'
   · conv=>whnf
     refine⟨?_,rfl⟩
     repeat (first | exact aw.nil | refine aw.any ?_ | refine aw.cons ?_ | refine aw.eq (by rw[wrap_i64 (by omega)];rfl) ?_)
   · conv=>whnf
     exact trivial
   · exact aq.of_le ⟨by simp,fun w hw=>hw⟩
 have hie:i=11:=by
  simp only[au,decide_eq_false_iff_not] at hlt
  omega
 subst hie
 rw[← hle] at hP2
 clear hle
 conv=>whnf
 repeat (refine aa.of ?_;conv=>whnf)
 have hq:IntKind.u64.wrap seq=((0:Nat):Int):=by rw[hseq];rfl
 generalize hq0:IntKind.u64.wrap seq=q0 at *
 subst hq
 refine ak.pure hn4 (fun w hw=>trivial) (fun v D hv=>?_)
 obtain⟨k4,rfl,hk4,rfl⟩:=hv
 rw[hm4] at hk4 ⊢
 conv=>whnf
 repeat (refine aa.of ?_;conv=>whnf)
 refine aj.c_ (F':=⟨fun w=>By w k4 m4,[]++aR a C ++ []⟩) (aq.of_le ⟨by simp[Fx.and],fun w hw=>hw.2⟩) ?_
 refine aj.append ab (t:=23) (xt:=23) rfl rfl rfl rfl rfl rfl (r1:=[]) (r2:=[]) (M:=m4.map ao) hO (.fact fun w hw=>hw) (by simp[hm4]) (fun v hv=>gm v hv) (by decide) (by decide) fun a2 c2 C2 hO2=>?_
 have hO2:Go.Sx.Own 1 20 a2 c2 C2 ((l++m4).map ao):=by rw[List.map_append];exact hO2
 have hl2:(l++m4).length=20:=by simp[hll,hm4]
 generalize l++m4=L3 at *
 subst hP2
 clear hO hll
 obtain⟨ba,rfl⟩:=ij hO2 (by decide)
 conv=>whnf
 repeat (refine aa.of ?_;conv=>whnf)
 refine aj.build ab (t:=23) rfl rfl rfl [] rfl rfl (by simp) (by decide) fun b4=>?_
 conv=>whnf
 repeat (refine aa.of ?_;conv=>whnf)
 refine aj.c_ (F':=⟨fun _=>True,[]++aR (some ⟨ba,0,none⟩) C2 ++ []⟩) (aq.of_le ⟨by simp,fun w hw=>trivial⟩) ?_
 refine aj.DE ab (t:=23) (xt:=23) rfl rfl rfl rfl rfl rfl (M:=PP.map ao) (hO2.Db (r1:=[]) (r2:=[])) (by simp[hl2]) (by decide) (by decide) fun k5 hk5=>?_
 conv=>whnf
 repeat (refine aa.of ?_;conv=>whnf)
 refine aH.no (by simp[bP,hn]) ?_
 conv=>whnf
 repeat (refine aa.of ?_;conv=>whnf)
 have hof:=B0 PP k5 (by rw[hl2];exact hk5) (by omega)
 rw[hl2] at hof
 generalize ofM PP=s at *
 refine ak.val hof (fun w hw=>hw.2) (fun v D hv=>?_)
 subst hv
 conv=>whnf
 repeat (refine aa.of ?_;conv=>whnf)
 have hn8:=nr s 8 (by decide)
 have hm8:=hm8 s
 generalize gj s 8=m8 at *
 refine ak.pure hn8 (fun w hw=>trivial) (fun v D hv=>?_)
 obtain⟨k8,rfl,hk8,rfl⟩:=hv
 rw[hm8] at hk8 ⊢
 conv=>whnf
 repeat (refine aa.of ?_;conv=>whnf)
 refine aj.c_ (F':=⟨fun w=>By w k8 m8,[]++aR (some ⟨ba,0,none⟩) C2 ++ []⟩) (aq.of_le ⟨by simp[Fx.and],fun w hw=>hw.2⟩) ?_
 refine aj.append ab (t:=23) (xt:=23) rfl rfl rfl rfl rfl rfl (r1:=[]) (r2:=[]) (M:=m8.map ao) hO2 (.fact fun w hw=>hw) (by simp[hm8]) (fun v hv=>gm v hv) (by decide) (by decide) fun a3 c3 C3 hO3=>?_
 have hO3:Go.Sx.Own 1 28 a3 c3 C3 ((PP++m8).map ao):=by rw[List.map_append];exact hO3
 have hl3:(PP++m8).length=28:=by simp[hl2,hm8]
 generalize PP++m8=L4 at *
 conv=>whnf
 repeat (refine aa.of ?_;conv=>whnf)
 refine aj.c_ (F':=⟨fun w=>True,[]++aR a3 C3 ++ []⟩) (aq.of_le ⟨by simp,fun w hw=>trivial⟩) ?_
 refine aj.rI ab (t:=23) (xt:=3) rfl rfl rfl rfl rfl rfl (m:=100) (r1:=[]) (r2:=[]) hO3 (by rw[j6];exact gm) (by decide) (by decide) (by decide) fun a' c' C' hO'=>?_
 rw[j6] at hO'
 have hO':Go.Sx.Own 1 128 a' c' C' ((L4++List.replicate 100 0).map ao):=by rw[List.map_append];exact hO'
 have hl5:(L4++List.replicate 100 0).length=128:=by simp[hl3]
 generalize L4++List.replicate 100 0=L5 at *
 conv=>whnf
 repeat (refine aa.of ?_;conv=>whnf)
 refine⟨⟨fun w=>aB w a' (L5.map ao),[]⟩,by simp only[List.nil_append,List.append_nil];exact(Go.Sx.Own.gives hO').trans (aq.imp fun w hw=>hw.2),L5,hH.symm,hl5,⟨a',c'⟩,?_,?_,rfl⟩
 · rw[hl5]
 · rw[hl5]
   exact hO'.hd
theorem wG (seq:Int) (hs:seq=0):af Tryz.prog 38 [.int .i64 seq] (fun _=>True) (fun v F=>∃ l:List UInt8,l=jb∧l.length=128∧∃ h:Hd,v = .tuple #[h.v 128,.int .i64 0]∧h.Ok 128∧F=⟨fun w=>By w h l,[]⟩):=by
 refine af.aF ab Tryz.func38 rfl (by decide) (n:=Tryz.f38.ntmps - 1) rfl rfl fun w0 av=>?_
 conv=>whnf
 repeat (refine aa.of ?_;conv=>whnf)
 refine aH.no (by simp[au,bP,hs]) ?_
 conv=>whnf
 repeat (refine aa.of ?_;conv=>whnf)
 refine ak.pure (vi seq hs 0 0 rfl) (fun w hw=>trivial) (fun v D hv=>?_)
 obtain⟨l,hle,hl,k,rfl,hk,rfl⟩:=hv
 conv=>whnf
 repeat (refine aa.of ?_;conv=>whnf)
 exact⟨_,aq.of_le ⟨by simp[Fx.and],fun w hw=>hw.2⟩,l,hle,hl,k,by rw[hl],by rw[← hl];exact hk,rfl⟩
def iY:List UInt8:=cS (cD (lay (lay (List.replicate 12288 0) 0 [82,70,83,49]) 128 jb) (bZ (List.range 19))) 0 2 128 (fun i=>if i=0 then 18 else 0)
theorem uW:af Tryz.prog 20 [] (fun _=>True) (fun v F=>∃ d,d=iY∧m9 d∧vq d v F):=by
 have hX:iY=cS (cD (lay (lay (List.replicate 12288 0) 0 [82,70,83,49]) 128 jb) (bZ (List.range 19))) 0 2 128 (fun i=>if i=0 then 18 else 0):=rfl
 generalize iY=XX at *
 refine af.aF ab Tryz.func20 rfl (by decide) (n:=Tryz.f20.ntmps) rfl rfl fun w0 av=>?_
 conv=>whnf
 repeat (refine aa.of ?_;conv=>whnf)
 refine aj.ek ab (t:=23) rfl rfl rfl rfl rfl rfl 12288 rfl rfl (by decide) (by decide) fun b=>?_
 obtain⟨d0,mf⟩ : ∃ d0,d0=List.replicate 12288 (0:UInt8):=⟨_,rfl⟩
 have hl0:d0.length=12288:=by rw[mf];exact List.length_replicate
 have hz0 : ∀ m,aJ d0 m=0:=fun m=>by
  rw[mf]
  unfold aJ
  rw[List.getD_eq_getElem?_getD,List.getElem?_replicate]
  split<;>rfl
 rw[← mf] at hX ⊢
 clear mf
 conv=>whnf
 repeat (refine aa.of ?_;conv=>whnf)
 refine aj.c_ (F':=⟨fun w=>True,[] ++ [(b,Row.c (d0.map ao ++ []))] ++ []⟩) (aq.of_le ⟨by simp,fun w hw=>trivial⟩) ?_
 refine aj.lN ab (t:=23) rfl rfl rfl rfl (r1:=[]) (r2:=[]) (b:=b) (k:=0) (l:=d0) (m:=[82,70,83,49]) (Z:=[]) rfl (by simp;try omega) (by simp;try omega) ?_
 have hb1:=fun m=>cu (l:=d0) (m:=[82,70,83,49]) (k:=0) (by simp;omega) m
 have hl1:(lay d0 0 [82,70,83,49]).length=12288:=by rw[ct (by simp;omega),hl0]
 generalize lay d0 0 [82,70,83,49]=d1 at *
 conv=>whnf
 repeat (refine aa.of ?_;conv=>whnf)
 refine ak.pure (wG 0 rfl) (fun w hw=>trivial) (fun v D hv=>?_)
 obtain⟨H,hHe,hH,kh,rfl,hkh,rfl⟩:=hv
 rw[← hHe] at hX
 clear hHe
 conv=>whnf
 repeat (refine aa.of ?_;conv=>whnf)
 refine ak.val (ea ⟨some ⟨b,0,none⟩,12288⟩ 12288 1 ⟨fun h=>(by cases h),by dsimp only;omega⟩ (by omega) (by omega)) (fun w hw=>trivial) (fun v D hv=>?_)
 rw[dO (by omega)] at hv
 subst hv
 conv=>whnf
 repeat (refine aa.of ?_;conv=>whnf)
 refine aj.c_ (F':=⟨fun w=>By w kh H,[] ++ [(b,Row.c (d1.map ao ++ []))] ++ []⟩) (aq.of_le ⟨by simp[Fx.and],fun w hw=>hw.2⟩) ?_
 refine aj.qe ab (t:=23) rfl rfl rfl rfl (r1:=[]) (r2:=[]) (b:=b) (k:=128) (l:=d1) (m:=H) (Z:=[]) rfl (.fact fun w hw=>hw) hH (by omega) (by omega) ?_
 have hb2:=fun m=>cu (l:=d1) (m:=H) (k:=128) (by omega) m
 have hl2:(lay d1 128 H).length=12288:=by rw[ct (by omega),hl1]
 generalize lay d1 128 H=d2 at *
 have hbits:bA d2=bZ (List.range 0):=by
  refine bW (by rw[aU hl2,bu]) fun i hi=>?_
  rw[aU hl2] at hi
  have e1:aJ (bZ (List.range 0)) i=0:=by
   show aJ (List.replicate 12 0) i=0
   unfold aJ
   rw[List.getD_eq_getElem?_getD,List.getElem?_replicate]
   split<;>rfl
  unfold bA
  rw[a8 (by omega) hi,hb2,if_neg (by omega),hb1,if_neg (by simp;omega),hz0,e1]
 have hbm:=iV d2 ⟨some ⟨b,0,none⟩,12288⟩ ⟨fun h=>(by cases h),by dsimp only;omega⟩ hl2
 rw[hl2,hbits] at hbm
 have hho:(⟨some ⟨b,0,none⟩,12288⟩:Hd).Ok 12288:=⟨fun h=>(by cases h),Nat.le_refl _⟩
 conv=>whnf
 repeat (refine aa.of ?_;conv=>whnf)
 refine ak.c_ (F':=⟨fun w=>By w ⟨some ⟨b,0,none⟩,12288⟩ d2,[]⟩) (aq.kr (r1:=[]) (r2:=[])) ?_
 refine ak.pure hbm (fun w hw=>hw) (fun v D hv=>?_)
 obtain⟨kb,rfl,hkb,rfl⟩:=hv
 rw[bu] at hkb ⊢
 conv=>whnf
 repeat (refine aa.of ?_;conv=>whnf)
 refine aI.loop ab (ι:=Nat×Hd) ([4,5]++List.range' 20 10) (fun x=>x.1≤19∧x.2.Ok 12)
  (fun x=>[(4,.v (x.2.v 12)),(5,.v (.int .i64 (x.1:Int)))]) (fun _=>[]) (fun x=>⟨fun w=>By w ⟨some ⟨b,0,none⟩,12288⟩ d2∧By w x.2 (bZ (List.range x.1)),[]⟩)
  (fun x=>19 - x.1) (0,kb) ⟨Nat.zero_le _,hkb⟩ ?_ rfl (aq.of_le ⟨by simp[Fx.and],fun w hw=>hw⟩) fun x hx=>?_
 · conv=>whnf
   repeat (first | exact aw.nil | refine aw.any ?_ | refine aw.cons ?_)
 obtain⟨i,k⟩:=x
 obtain⟨hi,hk⟩:=hx
 dsimp only at hi hk ⊢
 conv=>whnf
 refine aH.split (fun hlt=>?_) (fun hlt=>?_)
 · have hlt':i<19:=by
    simp only[eU,decide_eq_true_eq] at hlt
    omega
   have hsw:=j7 k hk (List.range i) i (by omega)
   rw[← List.range_succ] at hsw
   conv=>whnf
   repeat (refine aa.of ?_;conv=>whnf)
   refine ak.pure hsw (fun w hw=>hw.2) (fun v D hv=>?_)
   obtain⟨k',rfl,hk',rfl⟩:=hv
   conv=>whnf
   repeat (refine aa.of ?_;conv=>whnf)
   refine⟨(i+1,k'),⟨⟨hlt',hk'⟩,by dsimp only;omega⟩,?_,?_,aq.of_le ⟨by simp[Fx.and],fun w hw=>⟨hw.1.1,hw.2⟩⟩⟩
   · conv=>whnf
     refine⟨?_,rfl⟩
     repeat (first | exact aw.nil | refine aw.any ?_ | refine aw.cons ?_ | refine aw.eq (by rw[wrap_i64 (by omega)];rfl) ?_)
   · conv=>whnf
     exact trivial
 have hie:i=19:=by
  simp only[eU,decide_eq_false_iff_not] at hlt
  omega
 subst hie
 have hbf:=fun m=>aX hl2 (b:=bZ (List.range 19)) (bu _) m
 have hl3:=aP hl2 (b:=bZ (List.range 19)) (bu _)
 have hwb:=kx d2 ⟨some ⟨b,0,none⟩,12288⟩ (by rw[hl2];exact hho) hl2 (bZ (List.range 19)) k (by rw[bu];exact hk) (bu _)
 rw[hl2,bu] at hwb
 generalize cD d2 (bZ (List.range 19))=d3 at *
 conv=>whnf
 repeat (refine aa.of ?_;conv=>whnf)
 intro b0
 conv=>whnf
 repeat (refine aa.of ?_;conv=>whnf)
 have hpl:=bf hl3 (show 0<32 by decide) 2 128 (fun i=>if i=0 then 18 else 0)
 have hpb:=bO hl3 (show 0<32 by decide) 2 128 (fun i=>if i=0 then 18 else 0)
 have hpt:=fun(q:Hd) (hq:q.Ok d3.length)=>fB d3 q 0 2 128 (fun i=>if i=0 then 18 else 0) hq hl3 (by decide) (by decide) (by decide) (fun i=>by split<;>omega)
 generalize cS d3 0 2 128 (fun i=>if i=0 then 18 else 0)=d4 at *
 have hF:m9 d4:=by
  refine⟨hpl,fun m h1 h2=>?_,fun m h1 h2=>?_,fun m h1=>?_,fun m h1 h2 h3 h4=>?_⟩
  · rw[hpb,if_pos (by omega)]
  · rw[hpb,if_neg (by omega),hbf,if_pos (by omega)]
  · rw[hpb,if_neg (by omega),hbf,if_neg (by omega),hb2,if_neg (by omega),hb1,if_pos (by simp;omega)]
    rfl
  · rw[hpb,if_neg (by omega),hbf,if_neg (by omega),hb2,if_neg (by omega),hb1,if_neg (by simp;omega),hz0]
 refine aI.draw ab mixed rfl rfl ?_
 conv=>whnf
 repeat' (first
  | (refine And.intro ?_ ?_<;>conv=>whnf)
  | (refine ax.same rfl ?_;conv=>whnf)
  | (refine ax.row rfl ?_;conv=>whnf)
  | (refine ax.call rfl ?_;conv=>whnf)
  | (refine bG.of ?_;conv=>whnf)
  | (refine aa.of ?_;conv=>whnf)
  | (refine ak.pure hwb (fun w hw=>hw) (fun v D hv=>?_);obtain⟨k3,rfl,hk3,rfl⟩:=hv;conv=>whnf)
  | (refine ak.pure (hpt k3 hk3) (fun w hw=>hw.2) (fun v D hv=>?_);obtain⟨b4,c4,Z4,rfl,hc4,rfl⟩:=hv;conv=>whnf)
  | (refine ax.mk ?_ ?_;(focus (first | exact aq.refl _ | exact aq.left _ _ | exact aq.of_le ⟨List.sublist_append_left _ _,fun w h=>h⟩ | exact aq.of_le ⟨List.Sublist.refl _,fun w h=>h.1⟩));conv=>whnf))
 all_goals exact⟨⟨fun _=>True,[(b4,Row.c (d4.map ao++Z4))]⟩,aq.of_le ⟨by simp[Fx.and],fun w hw=>trivial⟩,d4,hX.symm,hF,b4,c4,Z4,rfl,hc4,rfl⟩
structure Dv (d:List UInt8):Prop where
 ok:aM d=0
 k0:rk d 0=2
 ks : ∀ m,1≤m→m<32→rk d m=0
 es:(T0 d).E 0=List.replicate 8 ([],0)
 bit : ∃ x,cI (bA d)=some x
theorem wP {d:List UInt8} (h:m9 d):Dv d:=by
 obtain⟨hd,h1,h2,h3,h4⟩:=h
 have hk0:rk d 0=2:=h1 1792 (by decide) (by decide)
 have hs0:rs d 0=128:=by
  unfold rs
  rw[h1 _ (by decide) (by decide),h1 _ (by decide) (by decide)]
  rfl
 have hb0 : ∀ i,i<12→rb d 0 i=if i=0 then 18 else 0:=fun i hi=>by
  show aJ d (1792+16*0+(3+i))=_
  rw[h1 _ (by omega) (by omega),show 1792+16*0+(3+i) - 1792=3+i by omega,jd _ _ _ hi]
  split<;>rfl
 have hp0:rp d 0=0:=h1 1807 (by decide) (by decide)
 have hz : ∀ n,1≤n→n<32→∀ r,r<16→aJ d (1792+16*n+r)=0:=fun n hn1 hn r hr=>h4 _ (by omega) (by omega) (by omega) (by omega)
 have hkz : ∀ n,1≤n→n<32→rk d n=0:=fun n a b=>hz n a b 0 (by decide)
 have hbz : ∀ n,1≤n→n<32→∀ i,i<12→rb d n i=0:=fun n a b i hi=>hz n a b (3+i) (by omega)
 have hpt0:part d 0 12 = [18]:=by
  have hfm:(List.range 12).map (rb d 0)=(List.range 12).map fun i=>if i=0 then 18 else 0:=List.map_congr_left fun i hi=>hb0 i (List.mem_range.1 hi)
  unfold part
  rw[hfm]
  decide
 have hptz : ∀ n,1≤n→n<32→part d n 12 = []:=fun n a b=>by
  rw[List.eq_nil_iff_forall_not_mem]
  intro y hy
  obtain⟨h0,i,hi,rfl⟩:=dJ.1 hy
  exact h0 (hbz n a b i hi)
 have hbmp:bA d=bZ (List.range 19):=by
  refine bW (by rw[aU hd,bu]) fun i hi=>?_
  rw[aU hd] at hi
  unfold bA
  rw[a8 (by omega) hi,h2 _ (by omega) (by omega)]
  congr 1
  omega
 have hOk:eZ d:=by
  refine Dt hd ?_ ?_ ?_ (fun n hn=>?_) (fun n hn=>?_) (fun n m hn hm hne x hx hy=>?_) (fun j hj=>?_)
  · refine bW (by rw[aZ (by omega)];rfl) fun i hi=>?_
    rw[aZ (by omega)] at hi
    rw[a8 (by omega) hi,h3 _ (by omega),Nat.zero_add]
  · rw[e8]
    intro i hi
    rw[aZ (by omega)] at hi
    rw[a8 (by omega) hi]
    exact h4 _ (by omega) (by omega) (by omega) (by omega)
  · rw[e8]
    intro i hi
    rw[aZ (by omega)] at hi
    rw[a8 (by omega) hi]
    exact h4 _ (by omega) (by omega) (by omega) (by omega)
  · unfold cH
    by_cases hn0:n=0
    · subst hn0
      have hnz : ¬ jB (rk d 0) (rs d 0) (rb d 0)=true:=fun h=>by
       have:=(cW.1 h).1
       omega
      rw[hp0,Bool.and_eq_true]
      refine⟨by decide,?_⟩
      rw[if_neg hnz,decide_eq_true_eq]
      refine⟨.inr hk0,by rw[hs0];decide,fun _=>hk0,fun i hi h=>?_,?_,.inr ⟨hs0,by rw[hb0 0 (by decide)];decide⟩⟩
      · rw[hb0 i hi] at h ⊢
        by_cases hi0:i=0
        · rw[if_pos hi0,hs0]
          omega
        · rw[if_neg hi0] at h
          exact absurd rfl h
      · unfold jA
        rw[hs0]
        rfl
    · have hrp:rp d n=0:=hz n (by omega) hn 15 (by decide)
      have hrs:rs d n=0:=by
       unfold rs
       rw[hz n (by omega) hn 1 (by decide),hz n (by omega) hn 2 (by decide)]
      have hiz:jB (rk d n) (rs d n) (rb d n)=true:=cW.2 ⟨hkz n (by omega) hn,hrs,hbz n (by omega) hn⟩
      rw[hrp,if_pos hiz,Bool.and_eq_true]
      exact⟨by decide,by simpa using hn0⟩
  · by_cases hn0:n=0
    · rw[hn0,hpt0];simp
    · rw[hptz n (by omega) hn];simp
  · by_cases hn0:n=0
    · rw[hptz m (by omega) hm] at hy
      cases hy
    · rw[hptz n (by omega) hn] at hx
      cases hx
  · rw[hbmp,gU (fun i hi=>by have:=List.mem_range.1 hi;omega),decide_eq_true_iff,List.mem_range]
    constructor
    · intro h
      by_cases hj2:j<18
      · exact .inl hj2
      · exact .inr ⟨0,by decide,by rw[hpt0,show j=18 by omega];simp⟩
    · rintro(h | ⟨n,hn,h⟩)
      · omega
      · by_cases hn0:n=0
        · rw[hn0,hpt0] at h
          have:j=18:=by simpa using h
          omega
        · rw[hptz n (by omega) hn] at h
          cases h
 have h0:=mj hd hOk
 obtain⟨c1,c2,c3,c4,c5,c6⟩:=js h0 (show 0<32 by decide) hk0
 have hcz : ∀ i,i<128→aJ (ay d 0) i=0:=fun i hi=>by
  rw[c2 i hi,hb0 0 (by decide),if_pos rfl]
  exact h4 _ (by omega) (by omega) (by omega) (by omega)
 have hE0:(T0 d).E 0=List.replicate 8 ([],0):=vP c1 hcz
 have hdl : ∀ m∈(T0 d).dl,m=0:=fun m hm=>by
  obtain⟨a,b⟩:=bY.1 hm
  refine Classical.byContradiction fun hne=>?_
  rw[hkz m (by omega) a] at b
  cases b
 have hch : ∀ m∈(T0 d).dl,(T0 d).ch m = []:=fun m hm=>by
  rw[(T0 d).kS hm,hdl m hm,hE0]
  rfl
 refine⟨rL h0 (fun m hm=>?_) ⟨fun m hm x hx=>?_,fun m hm=>?_,fun m hm m' hm' x hx hx'=>?_⟩ fun m hm hmk=>?_,hk0,fun m a b=>hkz m a b,hE0,?_⟩
 · rw[hdl m hm]
   exact pa c1 hcz
 · rw[hch m hm] at hx
   cases hx
 · rw[hch m hm]
   exact List.nodup_nil
 · rw[hch m hm] at hx
   cases hx
 · by_cases hm0:m=0
   · rw[hm0];exact .root
   · exact absurd (hkz m (by omega) hm) hmk
 · cases hx:cI (bA d) with
   | some x=>exact⟨x,rfl⟩
   | none=>
    exfalso
    unfold cI at hx
    rw[List.find?_eq_none] at hx
    have:=hx 19 (by rw[List.mem_range'_1];omega)
    rw[hbmp,gU (fun i hi=>by have:=List.mem_range.1 hi;omega)] at this
    simp at this
theorem Co {d p:List UInt8} {kind:Int} {names:List (List UInt8)} {at0 k:Nat} (h38:aM d=0) (hs:aL p=(names,0)) (hk:kind=1∨kind=2) (hn:names≠[]) (hf:aT d names.dropLast 0=(at0,0))
 (hdl:at0∈(T0 d).dl) (hnew:db ((T0 d).E at0) (names.getLastD [])=none) (hfe:db ((T0 d).E at0) []=some k) (ha:(aN d kind.toNat).2.2=0):(bE d p kind).2.2=0:=by
 unfold bE
 rw[if_neg (show ¬ aM d≠0 by rw[h38];simp),hs]
 dsimp only
 rw[if_neg (by decide),if_neg (by omega),if_neg hn,hf]
 dsimp only
 rw[if_neg (by decide),fI h38 hdl]
 dsimp only
 rw[if_neg (by decide),if_neg (by rw[hnew];simp),hfe]
 dsimp only
 rw[if_neg (by rw[ha];simp)]
theorem Cz {d p:List UInt8} {kind:Int} {names:List (List UInt8)} {at0 k n:Nat} (h38:aM d=0) (hs:aL p=(names,0)) (hk:kind=1∨kind=2) (hn:names≠[]) (hf:aT d names.dropLast 0=(at0,0))
 (hdl:at0∈(T0 d).dl) (hnew:db ((T0 d).E at0) (names.getLastD [])=none) (hfe:db ((T0 d).E at0) []=some k) (hfr:fy d=some n) (hb:kind=2→∃ x,cI (bA d)=some x) :
 bE d p kind=(n,(bE d p kind).2.1,0)∧Made d (bE d p kind).2.1 at0 k n kind.toNat (names.getLastD []):=by
 have ha:(aN d kind.toNat).2.2=0:=by
  obtain⟨h0,-,-⟩:=bx h38
  unfold aN
  rw[if_neg (show ¬ dM d≠0 by rw[h0];simp),hfr]
  dsimp only
  by_cases h2:kind.toNat=2
  · obtain⟨x,hx⟩:=hb (by omega)
    rw[if_pos h2,hx]
  · rw[if_neg h2]
 have h:=Co h38 hs hk hn hf hdl hnew hfe ha
 obtain⟨-,-,names',at',k',a1,a2,a3,a4,a5,a6⟩:=n_ h
 rw[hs] at a1
 cases a1
 rw[hf] at a3
 cases a3
 rw[hfe] at a4
 cases a4
 rw[hfr] at a5
 have a5:n=(bE d p kind).1:=Option.some.inj a5
 rw[← a5] at a6
 exact⟨Prod.ext a5.symm (Prod.ext rfl h),a6⟩
end Go.Proofs.YtfeoedkmndkbjaaGreatDoor
namespace Go.Sx
open Go
set_option linter.unusedVariables false
section
variable {P:Program} {aK:fk} {w0:World} {R:Nat→Nat→Prop} {av:Nat→Prop} {bs:List (Nat×Nat)} {cs:List (List Value)} {F:Fx}
theorem ai.strLt {t:TypeId} {x y:Operand} {l m:List UInt8} {K:Value→Prop} (h:K (.bool (Op.bytesLess l m))) :
 ai P w0 R av (do eqGuard .lss t x y (aC l) (aC m);binOp .lss t (aC l) (aC m)) bs cs F K:=by
 refine(aQ _ _ _ _).2 ⟨_,fun w _=>?_,h⟩
 unfold aC
 rw[ag (iT _ _ _ _ _ _ w)]
 simp only[binOp,Op.stringOp,toList_mk]
 rfl
end
end Go.Sx
namespace Go.Proofs.YtfeoedkmndkbjaaGreatDoor
open Go Go.Sx
set_option maxRecDepth 100000
set_option maxHeartbeats 4000000
set_option linter.unusedVariables false
set_option linter.unusedSimpArgs false
theorem nB : ∀ x y:List UInt8,Op.bytesLess x y=decide (x<y)
 | _,[]=>by simp[Op.bytesLess]
 | [],_::_=>by simp[Op.bytesLess]
 | a::x,b::y=>by
  rw[Op.bytesLess,nB x y]
  simp only[List.cons_lt_cons_iff]
  by_cases h1:a<b<;>by_cases h2:a=b<;>by_cases h3:x<y<;>simp[h1,h2,h3]
def rl (l:List (List UInt8)) (s:List UInt8):Nat:=(l.takeWhile fun x=>decide (x<s)).length
def jv (l:List (List UInt8)) (s:List UInt8):List (List UInt8):=l.take (rl l s) ++ [s]++l.drop (rl l s)
theorem zE (l:List (List UInt8)) (s:List UInt8):rl l s≤l.length:=by
 unfold rl
 exact(List.takeWhile_prefix _).length_le
theorem CN {l:List (List UInt8)} {s:List UInt8} : ∀ {i:Nat},i≤l.length→(∀ j (hj:j<l.length),j<i→l[j]<s)→(∀ h:i<l.length,¬ l[i]<s)→rl l s=i:=by
 induction l with
 | nil=>
  intro i hi _ _
  have:i=0:=by simpa using hi
  rw[this]
  rfl
 | cons x l ih=>
  intro i hi h1 h2
  cases i with
  | zero=>
   have:=h2 (by simp)
   unfold rl
   rw[List.takeWhile_cons_of_neg (by simpa using this)]
   rfl
  | succ i=>
   have h0:=h1 0 (by simp) (by omega)
   have:=ih (i:=i) (by simpa using hi) (fun j hj hji=>h1 (j+1) (by simpa using hj) (by omega)) (fun h=>h2 (by simpa using h))
   unfold rl at this ⊢
   rw[List.takeWhile_cons_of_pos (by simpa using h0),List.length_cons,this]
theorem wx (l:List (List UInt8)) (s:List UInt8):(jv l s).length=l.length+1:=by
 have:=zE l s
 unfold jv
 simp
 omega
def B9 (l:List (List UInt8)) (v:Value) (F:Fx):Prop:=∃ b cap C,v = .slice (some ⟨b,0,none⟩) l.length cap∧Go.Sx.Own 1 l.length (some ⟨b,0,none⟩) cap C (l.map aC)∧F=⟨fun _=>True,[(b,Row.c C)]⟩
theorem Ab (l:List (List UInt8)) (h:Hd) (hh:h.Ok l.length) (hl:l.length≤1000) (s:List UInt8) :
 af Tryz.prog 83 [h.v l.length,aC s] (fun w=>b_ w h l) (B9 (jv l s)):=by
 have hc:=hh.cap
 have hil:=zE l s
 have hof:=fun {i:Nat}=>CN (l:=l) (s:=s) (i:=i)
 refine af.aF ab Tryz.func83 rfl (by decide) (n:=Tryz.f83.ntmps - 2) rfl rfl fun w0 av=>?_
 conv=>whnf
 refine aI.loop ab (ι:=Nat) ([5]++List.range' 6 14) (fun x=>x≤l.length∧∀ j (hj:j<l.length),j<x→l[j]<s)
  (fun x=>[(5,.v (.int .i64 (x:Int)))]) (fun _=>[]) (fun _=>⟨fun w=>b_ w h l,[]⟩)
  (fun x=>l.length - x) 0 ⟨Nat.zero_le _,fun j _ hj=>by omega⟩ ?_ rfl (aq.refl _) fun i hi=>?_
 · conv=>whnf
   repeat (first | exact aw.nil | refine aw.any ?_ | refine aw.cons ?_)
 obtain⟨hi,hall⟩:=hi
 conv=>whnf
 have hone : ∀ v∈(l.take i).map aC,aO v=true:=fun v hv=>by
  obtain⟨x,_,rfl⟩:=List.mem_map.1 hv
  rfl
 have hone2 : ∀ v∈(l.drop i).map aC,aO v=true:=fun v hv=>by
  obtain⟨x,_,rfl⟩:=List.mem_map.1 hv
  rfl
 have htake : ∀ w,b_ w h l→aB w h.a ((l.take i).map aC):=fun w hw=>by
  rw[List.map_take]
  exact aB.take hw i
 have hdrop : ∀ w,b_ w h l→aB w (Hd.sub h i).a ((l.drop i).map aC):=fun w hw=>by
  have:=aB.cut (l:=i) (hi:=l.length) (m:=h.c) (size:=1) hw ⟨by omega,by omega⟩
  rw[Nat.mul_one,Nat.mul_one,List.take_of_length_le (by simp)] at this
  rw[List.map_drop]
  exact this
 have hend:rl l s=i→∀ (a:Option Addr) (c:Nat) (C:List Value) (n:Nat),Go.Sx.Own 1 n a c C (([]++(l.take i).map aC ++ [aC s])++(l.drop i).map aC)→∀ r1 r2:List (Nat×Row),n=l.length+1→∃ F',aq ⟨fun w=>b_ w h l,r1++aR a C++r2⟩ F'∧B9 (jv l s) (.slice a n c) F':=fun hk a c C n hO r1 r2 hn=>by
  have hL:([]++(l.take i).map aC ++ [aC s])++(l.drop i).map aC=(jv l s).map aC:=by
   unfold jv
   rw[hk]
   simp
  rw[hL] at hO
  have hil:=wx l s
  obtain⟨b,rfl⟩:=ij hO (by omega)
  refine⟨⟨fun w=>True,[(b,Row.c C)]⟩,aq.of_le ⟨?_,fun w hw=>trivial⟩,b,c,C,by rw[hil,hn],by rw[hil,← hn];exact hO,rfl⟩
  show[(b,Row.c C)].Sublist (r1 ++ [(b,Row.c C)]++r2)
  rw[List.append_assoc]
  exact(List.sublist_append_left _ _).trans (List.sublist_append_right _ _)
 generalize hlt:mL (i:Int) (l.length:Int)=c
 cases c
 · have hie:i=l.length:=by
    simp only[au,decide_eq_false_iff_not] at hlt
    omega
   have hk:=hof hi hall fun h=>by omega
   conv=>whnf
   repeat (refine aa.of ?_;conv=>whnf)
   refine aI.draw ab mixed rfl rfl ?_
   conv=>whnf
   refine ai.gA ab (t:=51) rfl rfl rfl (h:=h) i rfl (by omega) ?_
   conv=>whnf
   refine ai.gD ab (t:=51) rfl rfl rfl rfl (h:=h) i rfl (by omega) (by omega) ?_
   conv=>whnf
   refine And.intro ?_ ?_<;>conv=>whnf
   · refine aj.build ab (t:=51) rfl rfl rfl [] rfl rfl (by simp) (by decide) fun b0=>?_
     conv=>whnf
     refine And.intro ?_ ?_<;>conv=>whnf
     · refine aj.c_ (F':=⟨fun w=>b_ w h l,[]++aR (some ⟨b0,0,none⟩) [] ++ []⟩) (aq.of_le ⟨by simp[aR],fun w hw=>hw⟩) ?_
       refine aj.append ab (t:=51) (xt:=51) rfl rfl rfl rfl rfl rfl (r1:=[]) (r2:=[]) (M:=(l.take i).map aC) (L:=[]) (n:=0) (Go.Sx.Own.full rfl) (.fact fun w hw=>htake w hw) (by simp;omega) hone (by omega) (by simp;omega) fun a1 c1 C1 hO1=>?_
       conv=>whnf
       refine aj.build ab (t:=51) rfl rfl rfl [aC s] rfl rfl (by simp[Value.cells,aC]) (by decide) fun b1=>?_
       conv=>whnf
       refine aj.c_ (F':=⟨fun w=>b_ w h l,[]++aR a1 C1 ++ [(b1,Row.c [aC s])]⟩) (aq.of_le ⟨by simp[Value.cells,aC],fun w hw=>hw⟩) ?_
       refine aj.append ab (t:=51) (xt:=51) rfl rfl rfl rfl rfl rfl (r1:=[]) (r2:=[(b1,Row.c [aC s])]) (M:=[aC s]) hO1 (bp.row (by simp)) rfl (by simp[aC,aO]) (by omega) (by simp;omega) fun a2 c2 C2 hO2=>?_
       conv=>whnf
       refine aj.append ab (t:=51) (xt:=51) rfl rfl rfl rfl rfl rfl (r1:=[]) (r2:=[(b1,Row.c [aC s])]) (M:=(l.drop i).map aC) hO2 (.fact fun w hw=>hdrop w hw) (by simp;try omega) hone2 (by omega) (by simp;omega) fun a3 c3 C3 hO3=>?_
       conv=>whnf
       exact hend hk a3 c3 C3 _ hO3 _ _ (by omega)
     · refine aj.build ab (t:=51) rfl rfl rfl [aC s] rfl rfl (by simp[Value.cells,aC]) (by decide) fun b1=>?_
       conv=>whnf
       refine aj.c_ (F':=⟨fun w=>b_ w h l,[]++aR (some ⟨b0,0,none⟩) [] ++ [(b1,Row.c [aC s])]⟩) (aq.of_le ⟨by simp[aR,Value.cells,aC],fun w hw=>hw⟩) ?_
       refine aj.append ab (t:=51) (xt:=51) rfl rfl rfl rfl rfl rfl (r1:=[]) (r2:=[(b1,Row.c [aC s])]) (M:=(l.take i).map aC) (L:=[]) (n:=0) (Go.Sx.Own.full rfl) (.fact fun w hw=>htake w hw) (by simp;omega) hone (by omega) (by simp;omega) fun a1 c1 C1 hO1=>?_
       conv=>whnf
       refine aj.append ab (t:=51) (xt:=51) rfl rfl rfl rfl rfl rfl (r1:=[]) (r2:=[(b1,Row.c [aC s])]) (M:=[aC s]) hO1 (bp.row (by simp)) rfl (by simp[aC,aO]) (by omega) (by simp;omega) fun a2 c2 C2 hO2=>?_
       conv=>whnf
       refine aj.append ab (t:=51) (xt:=51) rfl rfl rfl rfl rfl rfl (r1:=[]) (r2:=[(b1,Row.c [aC s])]) (M:=(l.drop i).map aC) hO2 (.fact fun w hw=>hdrop w hw) (by simp;try omega) hone2 (by omega) (by simp;omega) fun a3 c3 C3 hO3=>?_
       conv=>whnf
       exact hend hk a3 c3 C3 _ hO3 _ _ (by omega)
   · refine aj.build ab (t:=51) rfl rfl rfl [aC s] rfl rfl (by simp[Value.cells,aC]) (by decide) fun b1=>?_
     conv=>whnf
     refine aj.build ab (t:=51) rfl rfl rfl [] rfl rfl (by simp) (by decide) fun b0=>?_
     conv=>whnf
     refine aj.c_ (F':=⟨fun w=>b_ w h l,[(b1,Row.c [aC s])]++aR (some ⟨b0,0,none⟩) [] ++ []⟩) (aq.of_le ⟨by simp[aR,Value.cells,aC],fun w hw=>hw⟩) ?_
     refine aj.append ab (t:=51) (xt:=51) rfl rfl rfl rfl rfl rfl (r1:=[(b1,Row.c [aC s])]) (r2:=[]) (M:=(l.take i).map aC) (L:=[]) (n:=0) (Go.Sx.Own.full rfl) (.fact fun w hw=>htake w hw) (by simp;omega) hone (by omega) (by simp;omega) fun a1 c1 C1 hO1=>?_
     conv=>whnf
     refine aj.append ab (t:=51) (xt:=51) rfl rfl rfl rfl rfl rfl (r1:=[(b1,Row.c [aC s])]) (r2:=[]) (M:=[aC s]) hO1 (bp.row (by simp)) rfl (by simp[aC,aO]) (by omega) (by simp;omega) fun a2 c2 C2 hO2=>?_
     conv=>whnf
     refine aj.append ab (t:=51) (xt:=51) rfl rfl rfl rfl rfl rfl (r1:=[(b1,Row.c [aC s])]) (r2:=[]) (M:=(l.drop i).map aC) hO2 (.fact fun w hw=>hdrop w hw) (by simp;try omega) hone2 (by omega) (by simp;omega) fun a3 c3 C3 hO3=>?_
     conv=>whnf
     exact hend hk a3 c3 C3 _ hO3 _ _ (by omega)
 · have hlt':i<l.length:=by
    simp only[au,decide_eq_true_eq] at hlt
    omega
   conv=>whnf
   repeat (refine aa.of ?_;conv=>whnf)
   refine aj.ah (ai.index ab (t:=51) rfl rfl rfl (by omega) (by omega) hh.nil fun ad had=>?_)
   conv=>whnf
   repeat (refine aa.of ?_;conv=>whnf)
   refine aj.ah (ai.load ab (t:=9) rfl rfl (ad:=ad) (k:=i) (L:=l.map aC) (v:=aC l[i]) (.fact fun w hw=>had ▸ hw) (by simp) (by simp[hlt']) ?_)
   conv=>whnf
   repeat (refine aa.of ?_;conv=>whnf)
   refine aj.ah (ai.strLt (l:=l[i]) (m:=s) ?_)
   rw[nB]
   conv=>whnf
   repeat (refine aa.of ?_;conv=>whnf)
   refine aH.split (fun hq=>?_) (fun hq=>?_)
   · have hq':l[i]<s:=by simpa using hq
     conv=>whnf
     repeat (refine aa.of ?_;conv=>whnf)
     refine⟨i+1,⟨⟨hlt',fun j hj hji=>?_⟩,by dsimp only;omega⟩,?_,?_,aq.refl _⟩
     · rcases Nat.lt_or_eq_of_le (Nat.lt_succ_iff.1 hji) with h5 | h5
       · exact hall j hj h5
       · subst h5;exact hq'
     · conv=>whnf
       refine⟨?_,rfl⟩
       repeat (first | exact aw.nil | refine aw.any ?_ | refine aw.cons ?_ | refine aw.eq (by rw[wrap_i64 (by omega)];rfl) ?_)
     · conv=>whnf
       exact trivial
   · have hq' : ¬ l[i]<s:=by simpa using hq
     have hk:=hof hi hall fun _=>hq'
     conv=>whnf
     repeat (refine aa.of ?_;conv=>whnf)
     refine aI.draw ab mixed rfl rfl ?_
     conv=>whnf
     refine ai.gA ab (t:=51) rfl rfl rfl (h:=h) i rfl (by omega) ?_
     conv=>whnf
     refine ai.gD ab (t:=51) rfl rfl rfl rfl (h:=h) i rfl (by omega) (by omega) ?_
     conv=>whnf
     refine And.intro ?_ ?_<;>conv=>whnf
     · refine aj.build ab (t:=51) rfl rfl rfl [] rfl rfl (by simp) (by decide) fun b0=>?_
       conv=>whnf
       refine And.intro ?_ ?_<;>conv=>whnf
       · refine aj.c_ (F':=⟨fun w=>b_ w h l,[]++aR (some ⟨b0,0,none⟩) [] ++ []⟩) (aq.of_le ⟨by simp[aR],fun w hw=>hw⟩) ?_
         refine aj.append ab (t:=51) (xt:=51) rfl rfl rfl rfl rfl rfl (r1:=[]) (r2:=[]) (M:=(l.take i).map aC) (L:=[]) (n:=0) (Go.Sx.Own.full rfl) (.fact fun w hw=>htake w hw) (by simp;omega) hone (by omega) (by simp;omega) fun a1 c1 C1 hO1=>?_
         conv=>whnf
         refine aj.build ab (t:=51) rfl rfl rfl [aC s] rfl rfl (by simp[Value.cells,aC]) (by decide) fun b1=>?_
         conv=>whnf
         refine aj.c_ (F':=⟨fun w=>b_ w h l,[]++aR a1 C1 ++ [(b1,Row.c [aC s])]⟩) (aq.of_le ⟨by simp[Value.cells,aC],fun w hw=>hw⟩) ?_
         refine aj.append ab (t:=51) (xt:=51) rfl rfl rfl rfl rfl rfl (r1:=[]) (r2:=[(b1,Row.c [aC s])]) (M:=[aC s]) hO1 (bp.row (by simp)) rfl (by simp[aC,aO]) (by omega) (by simp;omega) fun a2 c2 C2 hO2=>?_
         conv=>whnf
         refine aj.append ab (t:=51) (xt:=51) rfl rfl rfl rfl rfl rfl (r1:=[]) (r2:=[(b1,Row.c [aC s])]) (M:=(l.drop i).map aC) hO2 (.fact fun w hw=>hdrop w hw) (by simp;try omega) hone2 (by omega) (by simp;omega) fun a3 c3 C3 hO3=>?_
         conv=>whnf
         exact hend hk a3 c3 C3 _ hO3 _ _ (by omega)
       · refine aj.build ab (t:=51) rfl rfl rfl [aC s] rfl rfl (by simp[Value.cells,aC]) (by decide) fun b1=>?_
         conv=>whnf
         refine aj.c_ (F':=⟨fun w=>b_ w h l,[]++aR (some ⟨b0,0,none⟩) [] ++ [(b1,Row.c [aC s])]⟩) (aq.of_le ⟨by simp[aR,Value.cells,aC],fun w hw=>hw⟩) ?_
         refine aj.append ab (t:=51) (xt:=51) rfl rfl rfl rfl rfl rfl (r1:=[]) (r2:=[(b1,Row.c [aC s])]) (M:=(l.take i).map aC) (L:=[]) (n:=0) (Go.Sx.Own.full rfl) (.fact fun w hw=>htake w hw) (by simp;omega) hone (by omega) (by simp;omega) fun a1 c1 C1 hO1=>?_
         conv=>whnf
         refine aj.append ab (t:=51) (xt:=51) rfl rfl rfl rfl rfl rfl (r1:=[]) (r2:=[(b1,Row.c [aC s])]) (M:=[aC s]) hO1 (bp.row (by simp)) rfl (by simp[aC,aO]) (by omega) (by simp;omega) fun a2 c2 C2 hO2=>?_
         conv=>whnf
         refine aj.append ab (t:=51) (xt:=51) rfl rfl rfl rfl rfl rfl (r1:=[]) (r2:=[(b1,Row.c [aC s])]) (M:=(l.drop i).map aC) hO2 (.fact fun w hw=>hdrop w hw) (by simp;try omega) hone2 (by omega) (by simp;omega) fun a3 c3 C3 hO3=>?_
         conv=>whnf
         exact hend hk a3 c3 C3 _ hO3 _ _ (by omega)
     · refine aj.build ab (t:=51) rfl rfl rfl [aC s] rfl rfl (by simp[Value.cells,aC]) (by decide) fun b1=>?_
       conv=>whnf
       refine aj.build ab (t:=51) rfl rfl rfl [] rfl rfl (by simp) (by decide) fun b0=>?_
       conv=>whnf
       refine aj.c_ (F':=⟨fun w=>b_ w h l,[(b1,Row.c [aC s])]++aR (some ⟨b0,0,none⟩) [] ++ []⟩) (aq.of_le ⟨by simp[aR,Value.cells,aC],fun w hw=>hw⟩) ?_
       refine aj.append ab (t:=51) (xt:=51) rfl rfl rfl rfl rfl rfl (r1:=[(b1,Row.c [aC s])]) (r2:=[]) (M:=(l.take i).map aC) (L:=[]) (n:=0) (Go.Sx.Own.full rfl) (.fact fun w hw=>htake w hw) (by simp;omega) hone (by omega) (by simp;omega) fun a1 c1 C1 hO1=>?_
       conv=>whnf
       refine aj.append ab (t:=51) (xt:=51) rfl rfl rfl rfl rfl rfl (r1:=[(b1,Row.c [aC s])]) (r2:=[]) (M:=[aC s]) hO1 (bp.row (by simp)) rfl (by simp[aC,aO]) (by omega) (by simp;omega) fun a2 c2 C2 hO2=>?_
       conv=>whnf
       refine aj.append ab (t:=51) (xt:=51) rfl rfl rfl rfl rfl rfl (r1:=[(b1,Row.c [aC s])]) (r2:=[]) (M:=(l.drop i).map aC) hO2 (.fact fun w hw=>hdrop w hw) (by simp;try omega) hone2 (by omega) (by simp;omega) fun a3 c3 C3 hO3=>?_
       conv=>whnf
       exact hend hk a3 c3 C3 _ hO3 _ _ (by omega)
theorem Bi (l:List (List UInt8)) (h:Hd) (hh:h.Ok l.length) (hl:l.length≤1000) (s:List UInt8) :
 af Tryz.prog 83 [h.v l.length,aC s] (fun w=>b_ w h l) (DG (jv l s)):=
 (Ab l h hh hl s).weaken fun v F hv=>by
  obtain⟨b,c,C,rfl,hO,rfl⟩:=hv
  exact⟨⟨fun w=>b_ w ⟨some ⟨b,0,none⟩,c⟩ (jv l s),[]⟩,(Go.Sx.Own.gives hO).trans (aq.imp fun w hw=>hw.2),⟨some ⟨b,0,none⟩,c⟩,rfl,hO.hd,rfl⟩
def pz (l:List (List UInt8)) (e:En):List (List UInt8):=if e.1 = [] then l else jv l e.1
def fX (E:List En):List (List UInt8):=E.foldl pz []
theorem B6 (l:List (List UInt8)) (e:En):(pz l e).length≤l.length+1:=by
 unfold pz
 split
 · omega
 · rw[wx];omega
theorem qx : ∀ (E:List En) (l:List (List UInt8)),(E.foldl pz l).length≤l.length+E.length
 | [],l=>by simp
 | e::E,l=>by
  have h1:=qx E (pz l e)
  have h2:=B6 l e
  simp only[List.foldl_cons,List.length_cons]
  omega
noncomputable def iM (d:List UInt8) (n:Int):List (List UInt8)×Nat:=if aM d≠0 then ([],aM d) else (fX (cT d n).1,(cT d n).2)
def Dz (l:List (List UInt8)) (e:Nat) (v:Value) (F:Fx):Prop:=∃ h:Hd,v = .tuple #[h.v l.length,.int .i64 (e:Int)]∧h.Ok l.length∧F=⟨fun w=>b_ w h l,[]⟩
theorem Be (d:List UInt8) (n:Int):(cT d n).1.length≤8:=by
 unfold cT
 split
 · simp
 · split
   · simp
   · exact lf _
theorem v8 (d:List UInt8) (h:Hd) (hh:h.Ok d.length) (hl:d.length≤1000000) (n:Int) :
 af Tryz.prog 110 [h.v d.length,.int .i64 n] (fun w=>By w h d) (Dz (iM d n).1 (iM d n).2):=by
 obtain⟨M,hM⟩ : ∃ x,x=iM d n:=⟨_,rfl⟩
 rw[← hM]
 unfold iM at hM
 have hdl:=Be d n
 refine af.aF ab Tryz.func110 rfl (by decide) (n:=Tryz.f110.ntmps - 2) rfl rfl fun w0 av=>?_
 conv=>whnf
 refine ak.val (eN d h hh hl) (fun w hw=>hw) (fun v D hv=>?_)
 generalize aM d=c at *
 subst hv
 conv=>whnf
 repeat (refine aa.of ?_;conv=>whnf)
 refine aH.split (fun hq=>?_) (fun hq=>?_)
 · have hq':c≠0:=by
    simp[ar] at hq
    omega
   rw[if_pos hq'] at hM
   rw[hM]
   conv=>whnf
   repeat (refine aa.of ?_;conv=>whnf)
   exact⟨⟨fun w=>b_ w Hd.nil [],[]⟩,aq.bare fun w _=>aB.xO,Hd.nil,rfl,Hd.dq,rfl⟩
 have hq' : ¬ c≠0:=by
  simp[ar] at hq
  omega
 rw[if_neg hq'] at hM
 rw[hM]
 have hds:=qK d h hh hl n
 generalize cT d n=r at *
 obtain⟨E,er⟩:=r
 dsimp only at hds hdl ⊢
 conv=>whnf
 repeat (refine aa.of ?_;conv=>whnf)
 refine ak.pure hds (fun w hw=>hw) (fun v D hv=>?_)
 obtain⟨ke,rfl,hke,rfl⟩:=hv
 have hnx : ∀ j (hj:j<E.length),fX (E.take (j+1))=pz (fX (E.take j)) E[j]:=fun j hj=>by
  unfold fX
  rw[List.take_succ_eq_append_getElem hj,List.foldl_append]
  rfl
 have hnl : ∀ j,(fX (E.take j)).length≤8:=fun j=>by
  have:=qx (E.take j) []
  rw[List.length_take] at this
  unfold fX
  simp at this ⊢
  omega
 conv=>whnf
 repeat (refine aa.of ?_;conv=>whnf)
 refine aI.loop ab (ι:=Nat×Hd) ([9,10]++List.range' 22 19) (fun x=>x.1≤E.length∧x.2.Ok (fX (E.take x.1)).length)
  (fun x=>[(9,.v (x.2.v (fX (E.take x.1)).length)),(10,.v (.int .i64 (x.1:Int)))]) (fun _=>[]) (fun x=>⟨fun w=>aB w ke.a (bV E)∧b_ w x.2 (fX (E.take x.1)),[]⟩)
  (fun x=>E.length - x.1) (0,Hd.nil) ⟨Nat.zero_le _,Hd.dq⟩ ?_ rfl (aq.of_le ⟨by simp[Fx.and],fun w hw=>⟨hw.2,aB.xO⟩⟩) fun x hx=>?_
 · conv=>whnf
   repeat (first | exact aw.nil | refine aw.any ?_ | refine aw.cons ?_)
 obtain⟨j,k⟩:=x
 obtain⟨hj,hk⟩:=hx
 dsimp only at hj hk ⊢
 conv=>whnf
 refine aH.split (fun hlt=>?_) (fun hlt=>?_)
 · have hlt':j<E.length:=by
    simp only[au,decide_eq_true_eq] at hlt
    omega
   have hn1:=hnx j hlt'
   have hn2:=hnl j
   have hfin : ∀ (k':Hd) (l':List (List UInt8)),l'=fX (E.take (j+1))→aq ⟨fun w=>aB w ke.a (bV E)∧b_ w k' l',[]⟩ ((fun x:Nat×Hd=>(⟨fun w=>aB w ke.a (bV E)∧b_ w x.2 (fX (E.take x.1)),[]⟩:Fx)) (j+1,k')):=fun k' l' h=>by
    subst h
    exact aq.refl _
   generalize fX (E.take j)=ns at *
   have hcell:=(dz (l:=E) (i:=j) hlt').1
   generalize hej:E[j]=e at *
   obtain⟨nm,nd⟩:=e
   dsimp only at hcell
   conv=>whnf
   repeat (refine aa.of ?_;conv=>whnf)
   refine aj.ah (ai.index ab (t:=127) rfl rfl rfl (by omega) (by omega) hke.nil fun ad had=>?_)
   conv=>whnf
   repeat (refine aa.of ?_;conv=>whnf)
   refine aj.ah (ai.bS ab (t:=9) rfl rfl (ad:=ad) (k:=2*j) (L:=bV E) (v:=aC nm) (.fact fun w hw=>had ▸ hw.1) (fun hs=>by rw[Addr.dE hs];congr 1;simp;try omega) hcell ?_)
   conv=>whnf
   repeat (refine aa.of ?_;conv=>whnf)
   refine aj.ah (ai.ph (l:=nm) (m:=[]) ?_)
   conv=>whnf
   repeat (refine aa.of ?_;conv=>whnf)
   refine aH.split (fun hne=>?_) (fun hne=>?_)
   · have hne':nm≠[]:=by simpa using hne
     have ha:pz ns (nm,nd)=jv ns nm:=if_neg hne'
     rw[ha] at hn1
     have hins:=Bi ns k hk (by omega) nm
     conv=>whnf
     repeat (refine aa.of ?_;conv=>whnf)
     refine aj.ah (ai.index ab (t:=127) rfl rfl rfl (by omega) (by omega) hke.nil fun ad had=>?_)
     conv=>whnf
     repeat (refine aa.of ?_;conv=>whnf)
     refine aj.ah (ai.bS ab (t:=9) rfl rfl (ad:=ad) (k:=2*j) (L:=bV E) (v:=aC nm) (.fact fun w hw=>had ▸ hw.1) (fun hs=>by rw[Addr.dE hs];congr 1;simp;try omega) hcell ?_)
     conv=>whnf
     repeat (refine aa.of ?_;conv=>whnf)
     refine ak.pure hins (fun w hw=>hw.2) (fun v D hv=>?_)
     obtain⟨k2,rfl,hk2,rfl⟩:=hv
     conv=>whnf
     repeat (refine aa.of ?_;conv=>whnf)
     refine⟨(j+1,k2),⟨⟨hlt',by dsimp only;rw[hn1];exact hk2⟩,by dsimp only;omega⟩,?_,?_,aq.trans (aq.of_le (F':=⟨fun w=>aB w ke.a (bV E)∧b_ w k2 (jv ns nm),[]⟩) ⟨by simp[Fx.and],fun w hw=>⟨hw.1.1,hw.2⟩⟩) (hfin k2 _ hn1.symm)⟩
     · conv=>whnf
       refine⟨?_,rfl⟩
       repeat (first | exact aw.nil | refine aw.any ?_ | refine aw.cons ?_ | refine aw.eq (by rw[wrap_i64 (by omega)];rfl) ?_ | refine aw.eq (congrArg (fun q:List (List UInt8)=>SV.v (k2.v q.length)) hn1.symm) ?_)
     · conv=>whnf
       exact trivial
   · have hne':nm = []:=by simpa using hne
     have ha:pz ns (nm,nd)=ns:=if_pos hne'
     rw[ha] at hn1
     conv=>whnf
     repeat (refine aa.of ?_;conv=>whnf)
     refine⟨(j+1,k),⟨⟨hlt',by dsimp only;rw[hn1];exact hk⟩,by dsimp only;omega⟩,?_,?_,hfin k _ hn1.symm⟩
     · conv=>whnf
       refine⟨?_,rfl⟩
       repeat (first | exact aw.nil | refine aw.any ?_ | refine aw.cons ?_ | refine aw.eq (by rw[wrap_i64 (by omega)];rfl) ?_ | refine aw.eq (congrArg (fun q:List (List UInt8)=>SV.v (k.v q.length)) hn1.symm) ?_)
     · conv=>whnf
       exact trivial
 · have hje:j=E.length:=by
    simp only[au,decide_eq_false_iff_not] at hlt
    omega
   subst hje
   rw[List.take_length] at hk ⊢
   generalize fX E=ns at *
   conv=>whnf
   repeat (refine aa.of ?_;conv=>whnf)
   exact⟨⟨fun w=>b_ w k ns,[]⟩,aq.imp fun w hw=>hw.2,k,rfl,hk,rfl⟩
theorem s8 (x:List UInt8) (l:List (List UInt8)) (s:List UInt8):jv (x::l) s=if x<s then x::jv l s else s::x::l:=by
 unfold jv rl
 by_cases h:x<s
 · rw[if_pos h,List.takeWhile_cons_of_pos (by simpa using h)]
   simp
 · rw[if_neg h,List.takeWhile_cons_of_neg (by simpa using h)]
   simp
theorem n4 : ∀ (l:List (List UInt8)) (s:List UInt8),(jv l s).Perm (s::l)
 | [],s=>by simp[jv,rl]
 | x::l,s=>by
  rw[s8]
  split
  · exact((n4 l s).cons x).trans (List.Perm.swap s x l)
  · exact List.Perm.refl _
theorem oT : ∀ (l:List (List UInt8)) (s:List UInt8),(l.Pairwise fun x y=>decide (x≤y)=true)→(jv l s).Pairwise fun x y=>decide (x≤y)=true
 | [],s,_=>by simp[jv,rl]
 | x::l,s,h=>by
  rw[List.pairwise_cons] at h
  rw[s8]
  split
  · rename_i hx
    rw[List.pairwise_cons]
    refine⟨fun y hy=>?_,oT l s h.2⟩
    rcases List.mem_cons.1 ((n4 l s).mem_iff.1 hy) with h5 | h5
    · rw[h5]
      exact decide_eq_true (List.le_of_lt hx)
    · exact h.1 y h5
  · rename_i hx
    have hsx:s≤x:=List.not_lt.1 hx
    rw[List.pairwise_cons]
    refine⟨fun y hy=>?_,List.pairwise_cons.2 h⟩
    rcases List.mem_cons.1 hy with h5 | h5
    · rw[h5]
      exact decide_eq_true hsx
    · exact decide_eq_true (List.le_trans hsx (of_decide_eq_true (h.1 y h5)))
def tF (E:List En):List (List UInt8):=(E.filter fun e=>e.1≠[]).map (·.1)
theorem oa : ∀ (E:List En) (l:List (List UInt8)),(l.Pairwise fun x y=>decide (x≤y)=true)→((E.foldl pz l).Pairwise fun x y=>decide (x≤y)=true)∧(E.foldl pz l).Perm (l++tF E)
 | [],l,h=>⟨h,by simp[tF]⟩
 | e::E,l,h=>by
  by_cases he:e.1 = []
  · have ha:pz l e=l:=if_pos he
    have hn:tF (e::E)=tF E:=by
     unfold tF
     rw[List.filter_cons_of_neg (by simp[he])]
    rw[List.foldl_cons,ha,hn]
    exact oa E l h
  · have ha:pz l e=jv l e.1:=if_neg he
    have hn:tF (e::E)=e.1::tF E:=by
     unfold tF
     rw[List.filter_cons_of_pos (by simp[he])]
     rfl
    rw[List.foldl_cons,ha,hn]
    obtain⟨h1,h2⟩:=oa E (jv l e.1) (oT l e.1 h)
    refine⟨h1,h2.trans (((n4 l e.1).append_right _).trans ?_)⟩
    rw[List.cons_append]
    exact List.perm_middle.symm
theorem qm : ∀ (E:List En) (l:List (List UInt8)),(l++tF E).Nodup→E.foldl lS l=l++tF E
 | [],l,_=>by simp[tF]
 | e::E,l,h=>by
  by_cases he:e.1 = []
  · have ha:lS l e=l:=if_pos (.inl he)
    have hn:tF (e::E)=tF E:=by
     unfold tF
     rw[List.filter_cons_of_neg (by simp[he])]
    rw[hn] at h ⊢
    rw[List.foldl_cons,ha]
    exact qm E l h
  · have hn:tF (e::E)=e.1::tF E:=by
     unfold tF
     rw[List.filter_cons_of_pos (by simp[he])]
     rfl
    rw[hn] at h ⊢
    have hnin:e.1 ∉ l:=fun hm=>by
     rw[List.nodup_append] at h
     exact h.2.2 _ hm _ (List.mem_cons_self ..) rfl
    have ha:lS l e=l ++ [e.1]:=if_neg fun h=>h.elim he hnin
    rw[List.foldl_cons,ha,qm E (l ++ [e.1]) (by simpa using h)]
    simp
theorem AD {c:List UInt8} (h:cX c=true):(tF (eA c 8)).Nodup:=by
 have hok:=ec.1 h
 unfold tF eA
 have h1:(List.range 8).Pairwise fun i j=>(fZ c i).1≠[]→(fZ c j).1≠[]→(fZ c i).1≠(fZ c j).1:=by
  have hr:(List.range 8).Pairwise fun i j=>i<j:=List.pairwise_lt_range
  refine hr.imp_of_mem fun {i j} hi hj hij h2 h3=>?_
  exact(hok j (List.mem_range.1 hj)).only.resolve_left h3 i hij
 refine List.pairwise_map.2 (List.pairwise_filter.2 (List.pairwise_map.2 (h1.imp fun {i j} hij h2 h3=>hij (by simpa using h2) (by simpa using h3))))
theorem list_eq (d:List UInt8) (n:Int):kX d n=iM d n:=by
 unfold kX iM
 by_cases h0:oy d n=0
 · obtain⟨h38,m,rfl,hm⟩:=n5 h0
   rw[if_pos h0,if_neg (show ¬ aM d≠0 by rw[h38];simp),fI h38 hm]
   have hE:(T0 d).E (m:Int).toNat=eA (ay d m) 8:=rfl
   have hE2:(T0 d).E m=eA (ay d m) 8:=rfl
   rw[hE,hE2]
   have hnd:=AD ((bx h38).2.2 m hm)
   have e1:fM (eA (ay d m) 8)=tF (eA (ay d m) 8):=by
    have:=qm (eA (ay d m) 8) [] (by simpa using hnd)
    simpa [fM] using this
   obtain⟨h1,h2⟩:=oa (eA (ay d m) 8) [] .nil
   rw[List.nil_append] at h2
   rw[e1]
   refine Prod.ext ?_ rfl
   exact s9 (rN _) h1 ((jM _).trans h2.symm)
 · rw[if_neg h0]
   unfold oy at h0 ⊢
   by_cases h38:aM d=0
   · rw[if_neg (show ¬ aM d≠0 by rw[h38];simp)] at h0 ⊢
     rw[if_neg (show ¬ aM d≠0 by rw[h38];simp)]
     have:(cT d n).1 = []:=by
      unfold cT at h0 ⊢
      split at h0
      · rename_i h;rw[if_pos h]
      · rename_i h
        rw[if_neg h]
        split at h0
        · rename_i h2;rw[if_pos h2]
        · exact absurd rfl h0
     rw[this]
     rfl
   · rw[if_pos h38,if_pos h38]
end Go.Proofs.YtfeoedkmndkbjaaGreatDoor
set_option maxRecDepth 100000
set_option maxHeartbeats 4000000
set_option linter.unusedVariables false
set_option linter.unusedSimpArgs false
namespace Go.Sx
open Go
variable {P:Program} {aK:Sx.fk} {w0:World} {R:Nat→Nat→Prop} {av:Nat→Prop} {bs:List (Nat×Nat)} {cs:List (List Value)} {F:Fx}
theorem aj.Bz (hT:bn P aK) {t:TypeId} {ti te:TI} {e:TypeId} (ht:Sx.look aK t=some ti) (hk:ti.k = .slice e) (he:Sx.look aK e=some te) {k k':IntKind} {m m':Int} {K:KV} (hm:m=0) (hm':m'=0)
 (h : ∀ b,K (.slice (some ⟨b,0,none⟩) 0 0) bs cs ⟨F.D,F.rs ++ [(b,Row.c [])]⟩):aj P w0 R av (Instr.makeSlice t (.int k m) (.int k' m')) bs cs F K:=by
 subst hm hm'
 refine bT.2 fun w hst=>?_
 obtain⟨i1,d1,z1,p1,p2,p3,p4,p5,p6,p7,p8⟩:=aA (hT _ _ ht)
 obtain⟨i2,d2,z2,q1,q2,q3,q4,q5,q6,q7,q8⟩:=aA (hT _ _ he)
 rw[p4] at hk
 obtain rfl:=cO hk
 refine⟨_,_,[],cs,_,?_,by rw[List.append_nil];exact hst.newRow [] e,by rw[List.append_nil];exact h _⟩
 unfold Instr.makeSlice
 rw[ag (az p2 w)]
 simp only
 rw[ag (m:=asInt _) (a:=(0:Int)) (w':=w) rfl,ag (m:=asInt _) (a:=(0:Int)) (w':=w) rfl,ag (run_typeInfo q1 w)]
 have w1:IntKind.i64.wrap (0:Int)=0:=wrap_i64 (by omega)
 simp only[w1]
 have ht1:(decide ((0:Int)<0)||decide ((i2.bytes:Int)*(0:Int)>2 ^ 48))=false:=by
  rw[Int.mul_zero]
  decide
 simp only[ht1,Bool.false_or]
 rw[if_neg (by decide)]
 rw[ag (run_askRoom _ _),ag (run_sizeOf q1 w)]
 simp only[Int.toNat_zero,Nat.zero_mul]
 rw[if_pos trivial,ag (run_pure P _ w)]
 have e0:Array.map (fun x=>(#[]:Array Value)[x%(#[]:Array Value).size]!) (Array.range 0) = #[]:=by simp
 rw[e0]
 rw[ag (ic w e _)]
 rfl
end Go.Sx
namespace Go.Proofs.YtfeoedkmndkbjaaGreatDoor
open Go Go.Sx
section
variable {P:Program} {aK:Sx.fk} {w0:World} {R:Nat→Nat→Prop} {av:Nat→Prop} {bs:List (Nat×Nat)} {cs:List (List Value)} {F:Fx}
theorem aj.xJ (hT:bn P aK) {t:TypeId} {ti te:TI} {e:TypeId} (ht:Sx.look aK t=some ti) (hk:ti.k = .slice e) (he:Sx.look aK e=some te) (hz:te.zero = [.int .u8 0]) (hs:te.size=1) (hby:te.bytes=1) {k k':IntKind} {m m':Int} {K:KV} (n:Nat) (hm:m=(n:Int)) (hm':m'=(n:Int))
 (hsmall:n≤1000000) (h : ∀ b,K (.slice (some ⟨b,0,none⟩) n n) bs cs ⟨F.D,F.rs ++ [(b,Row.c ((List.replicate n (0:UInt8)).map ao ++ []))]⟩):aj P w0 R av (Instr.makeSlice t (.int k m) (.int k' m')) bs cs F K:=by
 by_cases hn:n=0
 · subst hn
   exact aj.Bz hT ht hk he hm hm' h
 · exact aj.ek hT ht hk he hz hs hby n hm hm' (by omega) hsmall h
end
def lg (d:List UInt8) (b:Nat→Nat) (p:Nat):Nat→List UInt8
 | 0=>List.replicate (128*p) 0
 | i+1=>if b i=0 then lg d b p i else lay (lg d b p i) (128*i) (cut d (128*b i) 128)
section
variable {d:List UInt8} (hd:d.length=12288) {b:Nat→Nat} {p:Nat} (hb : ∀ i,i<12→b i<96) (hp : ∀ i,i<12→b i≠0→i<p)
include hd hb hp
theorem nK : ∀ i,i≤12→(lg d b p i).length=128*p
 | 0,_=>List.length_replicate
 | i+1,hi=>by
  have ih:=nK i (by omega)
  have h1:=hb i (by omega)
  unfold lg
  split
  · exact ih
  · rename_i h
    have h2:=hp i (by omega) h
    rw[ct (by rw[aZ (by omega)];omega),ih]
theorem vL : ∀ i,i≤12→∀ m,aJ (lg d b p i) m=if m/128<i∧b (m/128)≠0 then aJ d (128*b (m/128)+m%128) else 0
 | 0,_,m=>by
  rw[if_neg (by omega)]
  show aJ (List.replicate (128*p) 0) m=0
  unfold aJ
  rw[List.getD_eq_getElem?_getD,List.getElem?_replicate]
  split<;>rfl
 | i+1,hi,m=>by
  have ih:=vL i (by omega) m
  have h1:=hb i (by omega)
  unfold lg
  by_cases h:b i=0
  · rw[if_pos h,ih]
    by_cases hm:m/128=i
    · rw[hm,if_neg (by omega),if_neg (by omega)]
    · by_cases h5:m/128<i∧b (m/128)≠0
      · rw[if_pos h5,if_pos ⟨by omega,h5.2⟩]
      · rw[if_neg h5,if_neg (by omega)]
  · have h2:=hp i (by omega) h
    have hcl:(cut d (128*b i) 128).length=128:=aZ (by omega)
    rw[if_neg h,cu (by rw[hcl,nK hd hb hp i (by omega)];omega),hcl]
    by_cases hm:128*i≤m∧m<128*i+128
    · have hmi:m/128=i:=by omega
      rw[if_pos hm,hmi,if_pos ⟨by omega,h⟩,a8 (by omega) (by omega)]
      congr 1
      omega
    · rw[if_neg hm,ih]
      by_cases h5:m/128<i∧b (m/128)≠0
      · rw[if_pos h5,if_pos ⟨by omega,h5.2⟩]
      · rw[if_neg h5,if_neg (by omega)]
omit hp in
theorem nT : ∀ i,i≤12→∀ m,aJ (dC d b i) m=if m/128<i∧b (m/128)≠0 then aJ d (128*b (m/128)+m%128) else 0
 | 0,_,m=>by
  rw[if_neg (by omega)]
  show aJ [] m=0
  unfold aJ
  simp
 | i+1,hi,m=>by
  have ih:=nT i (by omega)
  have hl:=fD hd (b:=b) (i:=i) fun j hj=>hb j (by omega)
  have h1:=hb i (by omega)
  show aJ (dC d b i++dg d (b i)) m=_
  by_cases hm:m<128*i
  · have e:aJ (dC d b i++dg d (b i)) m=aJ (dC d b i) m:=by
     unfold aJ
     rw[List.getD_eq_getElem?_getD,List.getD_eq_getElem?_getD,List.getElem?_append_left (by omega)]
    rw[e,ih]
    by_cases h5:m/128<i∧b (m/128)≠0
    · rw[if_pos h5,if_pos ⟨by omega,h5.2⟩]
    · rw[if_neg h5,if_neg (by omega)]
  · have e:aJ (dC d b i++dg d (b i)) m=aJ (dg d (b i)) (m - 128*i):=by
     unfold aJ
     rw[List.getD_eq_getElem?_getD,List.getD_eq_getElem?_getD,List.getElem?_append_right (by omega),hl]
    rw[e]
    unfold dg
    by_cases hq:m<128*i+128
    · have hmi:m/128=i:=by omega
      rw[hmi]
      by_cases h:b i=0
      · rw[if_pos h,if_neg (by omega)]
        unfold aJ
        rw[List.getD_eq_getElem?_getD,List.getElem?_replicate]
        split<;>rfl
      · rw[if_neg h,if_pos ⟨by omega,h⟩,a8 (by omega) (by omega)]
        congr 1
        omega
    · have hr : ¬ (m/128<i+1∧b (m/128)≠0):=by omega
      rw[if_neg hr]
      have hlen:(if b i=0 then List.replicate 128 0 else cut d (128*b i) 128).length=128:=by
       split
       · exact List.length_replicate
       · exact aZ (by omega)
      unfold aJ
      rw[List.getD_eq_getElem?_getD,List.getElem?_eq_none (by omega)]
      rfl
theorem Ad {s:Nat} (hs:s≤128*p) (hs2:s≤1536):(lg d b p 12).take s=(dC d b 12).take s:=by
 have h1:=nK hd hb hp 12 (by omega)
 have h2:=fD hd (b:=b) (i:=12) hb
 refine bW (by simp[h1,h2];omega) fun m hm=>?_
 have hm':m<s:=by
  rw[List.length_take] at hm
  omega
 have e : ∀ l:List UInt8,aJ (l.take s) m=aJ l m:=fun l=>by
  unfold aJ
  rw[List.getD_eq_getElem?_getD,List.getD_eq_getElem?_getD,List.getElem?_take,if_pos hm']
 rw[e,e,vL hd hb hp 12 (by omega),nT hd hb 12 (by omega)]
end
theorem sr (bv:Nat) (V:List Value) (h:Hd) (d:List UInt8) (hV:V[0]? = some (h.v d.length)) (hh:h.Ok d.length) (hd:d.length=12288) (k s:Nat) (b:Nat→Nat) (hs:s≤1536) (hb : ∀ i,i<12→b i<96) (hbs : ∀ i,i<12→b i≠0→i*128<s) :
 af Tryz.prog 91 [.pointer (some ⟨bv,0,none⟩),.agg ⟨bg k s b⟩] (fun w=>aB w (some ⟨bv,0,none⟩) V∧By w h d) (lq ((dC d b 12).take s)):=by
 have hp : ∀ i,i<12→b i≠0→i<(s+127)/128:=fun i hi h0=>by have:=hbs i hi h0;omega
 have hps:(s+127)/128≤12:=by omega
 have hsp:s≤128*((s+127)/128):=by omega
 have hps0:=gZ s (by omega)
 have hfin:=Ad hd hb hp hsp hs
 have hlen:=nK hd hb hp
 refine af.aF ab Tryz.func91 rfl (by decide) (n:=Tryz.f91.ntmps - 2) rfl rfl fun w0 av=>?_
 generalize (s+127)/128=p at *
 conv=>whnf
 intro b3
 conv=>whnf
 repeat (refine aa.of ?_;conv=>whnf)
 refine ak.val hps0 (fun w hw=>trivial) (fun v D hv=>?_)
 subst hv
 have hw:IntKind.i64.wrap ((p:Int)*128)=((128*p:Nat):Int):=by rw[wrap_i64 (by omega)];omega
 conv=>whnf
 repeat (refine aa.of ?_;conv=>whnf)
 refine aj.xJ ab (t:=23) rfl rfl rfl rfl rfl rfl (128*p) hw hw (by omega) fun bo=>?_
 conv=>whnf
 repeat (refine aa.of ?_;conv=>whnf)
 refine aI.loop ab (ι:=Nat) ([6,7]++List.range' 15 15) (fun x=>x≤12)
  (fun x=>[(15,.v (.int .i64 (x:Int)))]) (fun _=>[bg k s b]) (fun x=>⟨fun w=>aB w (some ⟨bv,0,none⟩) V∧By w h d,[(bo,Row.c ((lg d b p x).map ao ++ []))]⟩)
  (fun x=>12 - x) 0 (Nat.zero_le _) ?_ rfl (aq.of_le ⟨by simp[lg],fun w hw=>hw⟩) fun i hi=>?_
 · conv=>whnf
   repeat (first | exact aw.nil | refine aw.any ?_ | refine aw.cons ?_)
 conv=>whnf
 refine aH.split (fun hlt=>?_) (fun hlt=>?_)
 · have hlt':i<12:=by
    simp only[au,decide_eq_true_eq] at hlt
    omega
   have hol:=hlen i (by omega)
   have hbi:=hb i hlt'
   conv=>whnf
   refine aj.ah (ai.nA ab (t:=72) rfl rfl rfl rfl rfl i rfl hlt' (pF hlt') ?_)
   conv=>whnf
   repeat (refine aa.of ?_;conv=>whnf)
   refine aH.split (fun hz=>?_) (fun hz=>?_)
   · have hz':b i≠0:=by
      simp[ar] at hz
      omega
     have hpi:=hp i hlt' hz'
     have hob:lg d b p (i+1)=lay (lg d b p i) (128*i) (cut d (128*b i) 128):=by
      show(if b i=0 then _ else _)=_
      rw[if_neg hz']
     have hcl:(cut d (128*b i) 128).length=128:=aZ (by omega)
     have hwi:IntKind.i64.wrap ((i:Int)*128)=((128*i:Nat):Int):=by rw[wrap_i64 (by omega)];omega
     have hc:=hh.cap
     have hvb:=du bv V h d.length hV hh hd (b i) hbi
     generalize lg d b p i=O at *
     refine aI.draw ab mixed rfl rfl ?_
     conv=>whnf
     repeat' (first
      | (refine And.intro ?_ ?_<;>conv=>whnf)
      | (refine ax.same rfl ?_;conv=>whnf)
      | (refine ax.row rfl ?_;conv=>whnf)
      | (refine ax.call rfl ?_;conv=>whnf)
      | (refine bG.of ?_;conv=>whnf)
      | (refine aa.of ?_;conv=>whnf)
      | (refine ai.gD ab (t:=23) rfl rfl rfl (h:=⟨some ⟨bo,0,none⟩,128*p⟩) rfl (128*i) hwi (by omega) (by dsimp only;omega) ?_;conv=>whnf)
      | (refine ak.val hvb (fun w hw=>hw.1) (fun v D hv=>?_);subst hv;conv=>whnf)
      | (rw[dO (by omega)];refine aj.qe ab (t:=23) rfl rfl rfl rfl (r1:=[]) (r2:=[]) (b:=bo) (k:=128*i) (l:=O) (m:=cut d (128*b i) 128) (Z:=[]) rfl (.fact fun w hw=>By.sub hw.2 (by omega)) (by omega) (by omega) (by omega) ?_;conv=>whnf)
      | (refine ax.mk ?_ ?_;(focus (first | exact aq.refl _ | exact aq.left _ _ | exact aq.of_le ⟨List.sublist_append_left _ _,fun w h=>h⟩ | exact aq.of_le ⟨List.Sublist.refl _,fun w h=>h.1⟩));conv=>whnf))
     all_goals
      refine⟨i+1,⟨hlt',by dsimp only;omega⟩,?_,?_,by
       show aq _ ⟨fun w=>aB w (some ⟨bv,0,none⟩) V∧By w h d,[(bo,Row.c ((lg d b p (i+1)).map ao ++ []))]⟩
       rw[hob]
       exact aq.of_le ⟨by simp,fun w hw=>hw⟩⟩
      · conv=>whnf
        refine⟨?_,rfl⟩
        repeat (first | exact aw.nil | refine aw.any ?_ | refine aw.cons ?_ | refine aw.eq (by rw[wrap_i64 (by omega)];rfl) ?_)
      · conv=>whnf
        exact⟨⟨rfl,rfl⟩,trivial⟩
   · have hz':b i=0:=by
      simp[ar] at hz
      omega
     have hob:lg d b p (i+1)=lg d b p i:=by
      show(if b i=0 then _ else _)=_
      rw[if_pos hz']
     conv=>whnf
     repeat (refine aa.of ?_;conv=>whnf)
     refine⟨i+1,⟨hlt',by dsimp only;omega⟩,?_,?_,by
      show aq _ ⟨fun w=>aB w (some ⟨bv,0,none⟩) V∧By w h d,[(bo,Row.c ((lg d b p (i+1)).map ao ++ []))]⟩
      rw[hob]
      exact aq.refl _⟩
     · conv=>whnf
       refine⟨?_,rfl⟩
       repeat (first | exact aw.nil | refine aw.any ?_ | refine aw.cons ?_ | refine aw.eq (by rw[wrap_i64 (by omega)];rfl) ?_)
     · conv=>whnf
       exact⟨⟨rfl,rfl⟩,trivial⟩
 · have hie:i=12:=by
    simp only[au,decide_eq_false_iff_not] at hlt
    omega
   subst hie
   have hol:=hlen 12 (by omega)
   generalize lg d b p 12=O at *
   conv=>whnf
   repeat (refine aa.of ?_;conv=>whnf)
   refine aj.ah (ai.gA ab (t:=23) rfl rfl rfl (h:=⟨some ⟨bo,0,none⟩,128*p⟩) s rfl (by dsimp only;omega) ?_)
   conv=>whnf
   repeat (refine aa.of ?_;conv=>whnf)
   have hsl:(O.take s).length=s:=by
    rw[List.length_take]
    omega
   rw[← hfin]
   refine⟨⟨fun w=>By w ⟨some ⟨bo,0,none⟩,128*p⟩ (O.take s),[]⟩,(aq.kr (r1:=[]) (r2:=[])).trans (aq.imp fun w hw=>?_),⟨some ⟨bo,0,none⟩,128*p⟩,?_,?_,rfl⟩
   · have:=aB.take hw s
     unfold By
     rw[List.map_take]
     exact this
   · rw[hsl]
   · rw[hsl]
     exact⟨fun h=>(by cases h),by dsimp only;omega⟩
end Go.Proofs.YtfeoedkmndkbjaaGreatDoor
namespace Go.Proofs.YtfeoedkmndkbjaaGreatDoor
open Go Go.Sx
set_option maxRecDepth 100000
set_option linter.unusedVariables false
set_option linter.unusedSimpArgs false
structure Wt (d:List UInt8) (n:Nat) (i:Nat) (o:List UInt8) (b:Nat→Nat):Prop where
 len:o.length=12288
 has : ∀ q,q<i→b q≠0
 old : ∀ q,rb d n q≠0→b q=rb d n q
 rest : ∀ q,i≤q→b q=rb d n q
 new : ∀ q,q<12→b q≠0→rb d n q=0→18≤b q∧b q<96∧da (bA d) (b q)=false∧∀ r,r<128→aJ o (128*b q+r)=0
 inj : ∀ q q',q<12→q'<12→b q≠0→b q=b q'→q=q'
 bits : ∀ j,da (bA o) j=true↔da (bA d) j=true∨∃ q,q<12∧b q≠0∧b q=j
 byts : ∀ m,¬ (1664≤m∧m<1676)→(∀ q,q<12→b q≠0→rb d n q=0→m/128≠b q)→aJ o m=aJ d m
theorem A8 {d:List UInt8} (hok:eZ d) (hd:d.length=12288) {n:Nat} (hn:n<32) : ∀ {i:Nat} {o:List UInt8} {b:Nat→Nat},i≤12→wt d (rb d n) i=some (o,b)→Wt d n i o b
 | 0,o,b,_,h=>by
  cases h
  refine⟨hd,fun q hq=>by omega,fun q _=>rfl,fun q _=>rfl,fun q hq h1 h2=>absurd h2 h1,fun q q' hq hq' h1 h2=>?_,fun j=>?_,fun m _ _=>rfl⟩
  · have hnd:=(ln hok).1 n hn
    refine Classical.byContradiction fun hne=>?_
    have key : ∀ a c:Nat,a<c→c<12→rb d n a≠0→rb d n a=rb d n c→False:=fun a c hac hc ha he=>by
     unfold part at hnd
     have h3:List.Pairwise (fun x y:Nat=>x≠y) (((List.range 12).map (rb d n)).filter (·≠0)):=hnd
     rw[List.filter_map] at h3
     have h4:=List.pairwise_map.1 h3
     have h5:(List.range 12).Pairwise fun x y=>rb d n x≠0→rb d n y≠0→rb d n x≠rb d n y:=by
      have:=List.pairwise_filter.1 h4
      refine this.imp fun {x y} hxy hx hy=>hxy (by simpa using hx) (by simpa using hy)
     rw[List.pairwise_iff_getElem] at h5
     have:=h5 a c (by simp;omega) (by simp;omega) hac
     simp only[List.getElem_range] at this
     exact this ha (by rw[← he];exact ha) he
    rcases Nat.lt_or_gt_of_ne hne with h5 | h5
    · exact key q q' h5 hq' h1 h2
    · exact key q' q h5 hq (by rw[← h2];exact h1) h2.symm
  · constructor
    · exact .inl
    · rintro(h | ⟨q,hq,h1,h2⟩)
      · exact h
      · exact(ll hok j).2 (.inr ⟨n,hn,dJ.2 ⟨by rw[← h2];exact h1,q,hq,h2⟩⟩)
 | i+1,o,b,hi,h=>by
  unfold wt at h
  cases hw:wt d (rb d n) i with
  | none=>rw[hw] at h;cases h
  | some r=>
   obtain⟨o1,b1⟩:=r
   have W:=A8 hok hd hn (by omega) hw
   rw[hw] at h
   try dsimp only at h
   by_cases hb:b1 i=0
   · rw[if_pos hb] at h
     cases hx:cI (bA o1) with
     | none=>rw[hx] at h;cases h
     | some x=>
      rw[hx] at h
      cases h
      obtain⟨hx1,hx2⟩:=dK hx
      have hxc:=lr hx
      have hbl:=aU W.len
      have hpb:(cq (bA o1) x true).length=12:=by rw[bz,hbl]
      have hz:(List.replicate 128 (0:UInt8)).length=128:=List.length_replicate
      have htl:=cY W.len hx2
      have hsl:=aP W.len hpb
      have htb : ∀ m,aJ (cG o1 x) m=if 128*x≤m∧m<128*x+128 then aJ (List.replicate 128 0) (m - 128*x) else if 1664≤m∧m<1676 then aJ (cq (bA o1) x true) (m - 1664) else aJ o1 m:=fun m=>by
       unfold cG
       rw[cu (by rw[hz];omega),hz,aX W.len hpb]
      have hzz : ∀ r,aJ (List.replicate 128 (0:UInt8)) r=0:=fun r=>by
       unfold aJ
       rw[List.getD_eq_getElem?_getD,List.getElem?_replicate]
       split<;>rfl
      have hri:rb d n i=0:=by rw[← W.rest i (Nat.le_refl _)];exact hb
      have hxn : ∀ q,q<12→b1 q≠0→b1 q≠x:=fun q hq h1 h2=>by
       have:=(W.bits x).2 (.inr ⟨q,hq,h1,h2⟩)
       rw[hxc] at this
       cases this
      have hxd:da (bA d) x=false:=by
       cases hg:da (bA d) x with
       | false=>rfl
       | true=>
        have:=(W.bits x).2 (.inl hg)
        rw[hxc] at this
        cases this
      have hbe:bA (cG o1 x)=cq (bA o1) x true:=by
       refine bW (by rw[aU htl,hpb]) fun r hr=>?_
       rw[aU htl] at hr
       unfold bA
       rw[a8 (by omega) hr,htb,if_neg (by omega),if_pos (by omega)]
       congr 1
       omega
      refine⟨htl,fun q hq=>?_,fun q h1=>?_,fun q hq=>?_,fun q hq h1 h2=>?_,fun q q' hq hq' h1 h2=>?_,fun j=>?_,fun m h1 h2=>?_⟩
      · try dsimp only
        by_cases h5:q=i
        · rw[if_pos h5];omega
        · rw[if_neg h5];exact W.has q (by omega)
      · try dsimp only
        rw[if_neg (fun h=>by rw[h] at h1;exact h1 hri)]
        exact W.old q h1
      · try dsimp only
        rw[if_neg (by omega)]
        exact W.rest q (by omega)
      · try dsimp only at h1 ⊢
        by_cases h5:q=i
        · rw[if_pos h5]
          exact⟨hx1,hx2,hxd,fun r hr=>by rw[htb,if_pos (by omega)];exact hzz _⟩
        · rw[if_neg h5] at h1 ⊢
          obtain⟨a1,a2,a3,a4⟩:=W.new q hq h1 h2
          have:=hxn q hq h1
          exact⟨a1,a2,a3,fun r hr=>by rw[htb,if_neg (by omega),if_neg (by omega)];exact a4 r hr⟩
      · try dsimp only at h1 h2
        by_cases h5:q=i
        · rw[if_pos h5] at h1 h2
          by_cases h6:q'=i
          · rw[h5,h6]
          · rw[if_neg h6] at h2
            exact absurd h2.symm (hxn q' hq' (by omega))
        · rw[if_neg h5] at h1 h2
          by_cases h6:q'=i
          · rw[if_pos h6] at h2
            exact absurd h2 (hxn q hq h1)
          · rw[if_neg h6] at h2
            exact W.inj q q' hq hq' h1 h2
      · rw[hbe,kZ true (by rw[hbl];omega)]
        by_cases hj:j=x
        · rw[if_pos hj]
          exact⟨fun _=>.inr ⟨i,by omega,by(try dsimp only);rw[if_pos rfl];omega,by(try dsimp only);rw[if_pos rfl];exact hj.symm⟩,fun _=>rfl⟩
        · rw[if_neg hj,W.bits]
          constructor
          · rintro(h | ⟨q,hq,h1,h2⟩)
            · exact .inl h
            · have:q≠i:=fun h=>by rw[h] at h1;exact h1 hb
              exact .inr ⟨q,hq,by(try dsimp only);rw[if_neg this];exact h1,by(try dsimp only);rw[if_neg this];exact h2⟩
          · rintro(h | ⟨q,hq,h1,h2⟩)
            · exact .inl h
            · try dsimp only at h1 h2
              by_cases h5:q=i
              · rw[if_pos h5] at h2
                exact absurd h2.symm hj
              · rw[if_neg h5] at h1 h2
                exact .inr ⟨q,hq,h1,h2⟩
      · have hmx:m/128≠x:=by
         have:=h2 i (by omega) (by(try dsimp only);rw[if_pos rfl];omega) hri
         try dsimp only at this
         rwa [if_pos rfl] at this
        rw[htb,if_neg (by omega),if_neg h1]
        refine W.byts m h1 fun q hq h3 h4=>?_
        have h5:q≠i:=fun h=>by rw[h] at h3;exact h3 hb
        have:=h2 q hq (by(try dsimp only);rw[if_neg h5];exact h3) h4
        try dsimp only at this
        rwa [if_neg h5] at this
   · rw[if_neg hb] at h
     cases h
     exact⟨W.len,fun q hq=>by
      by_cases h5:q=i
      · rw[h5];exact hb
      · exact W.has q (by omega),W.old,fun q hq=>W.rest q (by omega),W.new,W.inj,W.bits,W.byts⟩
theorem wF {o data:List UInt8} {b:Nat→Nat} (ho:o.length=12288) (hb : ∀ q,q<12→b q<96) (hinj : ∀ q q',q<12→q'<12→b q≠0→b q=b q'→q=q') (hhas : ∀ q,128*q<data.length→b q≠0) (hl:data.length≤1536) : ∀ k,k≤data.length→
 (∀ q r,q<12→r<128→b q≠0→k≤128*q+r→aJ (wd o b data k) (128*b q+r)=aJ o (128*b q+r))∧(∀ m,(∀ q,q<12→b q≠0→m/128≠b q)→aJ (wd o b data k) m=aJ o m)
 | 0,_=>⟨fun q r _ _ _ _=>rfl,fun m _=>rfl⟩
 | k+1,hk=>by
  obtain⟨ih1,ih2⟩:=wF ho hb hinj hhas hl k (by omega)
  have hkb:=hb (k/128) (by omega)
  have hk0:=hhas (k/128) (by omega)
  have hput : ∀ m,aJ (wd o b data (k+1)) m=if m=128*b (k/128)+k%128 then aJ data k else aJ (wd o b data k) m:=fun m=>by
   show aJ (dm (wd o b data k) _ _) m=_
   rw[dy (by rw[ka];omega) (bJ _ _)]
  refine⟨fun q r hq hr h0 hkr=>?_,fun m hm=>?_⟩
  · rw[hput,if_neg fun h=>?_,ih1 q r hq hr h0 (by omega)]
    have h5:b q=b (k/128):=by omega
    have:=hinj q (k/128) hq (by omega) h0 h5
    omega
  · have:=hm (k/128) (by omega) hk0
    rw[hput,if_neg (by omega),ih2 m hm]
theorem wS {d:List UInt8} (h38:aM d=0) {n:Nat} (hg:a7 d n=0) (hk:rk d n=1) {data:List UInt8} (he:(bQ d n data).2=0):aM (bQ d n data).1=0:=by
 obtain⟨h0,hG,hE⟩:=bx h38
 obtain⟨hd,hok⟩:=bl h0
 obtain⟨hn,-⟩:=(di h0).1 hg
 obtain⟨p1,p2⟩:=ln hok
 have hn0:n≠0:=fun h=>by
  have:=(bY.1 (j2 h0)).2
  rw[h] at hk
  omega
 unfold bQ at he ⊢
 rw[if_neg (by rw[hg];simp)] at he ⊢
 by_cases hdl:data.length=0
 · rw[if_pos hdl]
   exact h38
 rw[if_neg hdl,if_neg (show ¬ rk d n=2 by omega)] at he ⊢
 by_cases hbig:1536<data.length
 · rw[if_pos hbig] at he;cases he
 rw[if_neg hbig] at he ⊢
 cases hw:wt d (rb d n) ((data.length+127)/128) with
 | none=>rw[hw] at he;cases he
 | some r=>
  obtain⟨o,b⟩:=r
  dsimp only
  have W:=A8 hok hd hn (by omega) hw
  have hsz:=fT (hok.form n hn)
  have hb96 : ∀ q,q<12→b q<96:=fun q hq=>by
   by_cases h1:b q=0
   · omega
   · by_cases h2:rb d n q=0
     · exact(W.new q hq h1 h2).2.1
     · rw[W.old q h2]
       exact eo hok hn hq
  have hb18 : ∀ q,q<12→b q≠0→18≤b q:=fun q hq h1=>by
   by_cases h2:rb d n q=0
   · exact(W.new q hq h1 h2).1
   · rw[W.old q h2]
     exact(bD (hok.form n hn) q hq h2).1
  have hD:=wF (data:=data) W.len hb96 W.inj (fun q hq=>W.has q (by omega)) (by omega) data.length (Nat.le_refl _)
  obtain⟨D1,D2⟩:=hD
  have hwl:(wd o b data data.length).length=12288:=by rw[ka,W.len]
  generalize wd o b data data.length=w at *
  obtain⟨s,hs⟩ : ∃ s,s=max (rs d n) data.length:=⟨_,rfl⟩
  rw[← hs,hk]
  have hs1:rs d n≤s∧data.length≤s∧s≤1536:=by omega
  have hpl:=bf hwl hn 1 s b
  obtain⟨f1,f2,f3,f4⟩:=iN hwl hn 1 s b (by decide) (by omega) (fun i hi=>by have:=hb96 i hi;omega)
  have hpb:=bO hwl hn 1 s b
  generalize cS w n 1 s b=e at *
  have hby : ∀ m,¬ (1792+16*n≤m∧m<1792+16*n+16)→¬ (1664≤m∧m<1676)→(∀ q,q<12→b q≠0→m/128≠b q)→aJ e m=aJ d m:=fun m h1 h2 h3=>by
   rw[hpb,if_neg h1,D2 m h3,W.byts m h2 fun q hq h4 _=>h3 q hq h4]
  have hlow : ∀ m,m/128<18→∀ q,q<12→b q≠0→m/128≠b q:=fun m hm q hq h=>by have:=hb18 q hq h;omega
  have hbe:bA e=bA o:=by
   refine bW (by rw[aU hpl,aU W.len]) fun r hr=>?_
   rw[aU hpl] at hr
   have hol:=W.len
   unfold bA
   rw[a8 (by omega) hr,a8 (by omega) hr,hpb,if_neg (by omega),D2 _ (hlow _ (by omega))]
  have hpe : ∀ x,x∈part e n 12↔x≠0∧∃ q,q<12∧b q=x:=fun x=>by
   rw[dJ]
   constructor
   · rintro⟨h1,q,hq,h2⟩;exact⟨h1,q,hq,by rw[← f3 q hq];exact h2⟩
   · rintro⟨h1,q,hq,h2⟩;exact⟨h1,q,hq,by rw[f3 q hq];exact h2⟩
  have hoth : ∀ m,m<32→m≠n→∀ y∈part d m 12,∀ q,q<12→b q≠0→y≠b q:=fun m hm hmn y hy q hq h1 h2=>by
   by_cases h3:rb d n q=0
   · have h4:=(W.new q hq h1 h3).2.2.1
     have:=(ll hok y).2 (.inr ⟨m,hm,hy⟩)
     rw[h2,h4] at this
     cases this
   · have h5:=W.old q h3
     exact p2 m n hm hn hmn y hy (dJ.2 ⟨by rw[h2];exact h1,q,hq,by rw[h2,h5]⟩)
  have hslot : ∀ m,m<32→m≠n→eh d e m:=fun m hm hmn r hr=>hby _ (by omega) (by omega) (hlow _ (by omega))
  have hblk : ∀ m,m<32→m≠n→∀ y∈part d m 12,∀ i,128*y≤i→i<128*y+128→aJ e i=aJ d i:=fun m hm hmn y hy i a c=>by
   have:=(kT hok hm hy).1
   have h5:i/128=y:=by omega
   exact hby i (by omega) (by omega) fun q hq h1=>by rw[h5];exact hoth m hm hmn y hy q hq h1
  have hOk:eZ e:=by
   refine lO hok hd hpl hn (fun m hm=>hby m (by omega) (by omega) (hlow m (by omega))) (fun m a c=>hby m (by omega) (by omega) (hlow m (by omega))) hslot ?_ hblk ?_ (fun m hm hmn x hx hx'=>?_) (fun j hj=>?_)
   · unfold cH
     rw[f4,Bool.and_eq_true]
     refine⟨by simp,?_⟩
     have hnz : ¬ jB (rk e n) (rs e n) (rb e n)=true:=fun h=>by
      have:=(cW.1 h).1
      omega
     rw[if_neg hnz,decide_eq_true_eq]
     refine⟨.inl f1,by rw[f2];exact hs1.2.2,fun h=>absurd h hn0,fun i hi h=>?_,?_,.inl f1⟩
     · rw[f3 i hi] at h ⊢
       rw[f2]
       refine⟨hb18 i hi h,hb96 i hi,?_⟩
       by_cases h2:rb d n i=0
       · by_cases h3:i<(data.length+127)/128
         · omega
         · have:=W.rest i (by omega)
           rw[this] at h
           exact absurd h2 h
       · have:=(bD (hok.form n hn) i hi h2).2.2
         omega
     · unfold jA
       rw[f2]
       by_cases q1:s%128=0
       · rw[decide_eq_true q1];rfl
       have hq12:s/128<12:=by omega
       rw[decide_eq_false q1,Bool.false_or,f3 _ hq12]
       by_cases q2:b (s/128)=0
       · rw[decide_eq_true q2];rfl
       rw[decide_eq_false q2,Bool.false_or,e8]
       have h96:=hb96 _ hq12
       have h18:=hb18 _ hq12 q2
       intro r hr
       rw[aZ (by omega)] at hr
       rw[a8 (by omega) hr,hpb,if_neg (by omega),Nat.add_assoc,D1 (s/128) (s%128+r) hq12 (by omega) q2 (by omega)]
       by_cases h2:rb d n (s/128)=0
       · exact(W.new _ hq12 q2 h2).2.2.2 _ (by omega)
       · have hro:=W.old _ h2
         have hlt:=(bD (hok.form n hn) _ hq12 h2).2.2
         rw[W.byts _ (by omega) fun q hq h3 h4 h5=>?_]
         · have hf:=hok.form n hn
           unfold cH at hf
           rw[Bool.and_eq_true] at hf
           have hf2:=hf.2
           have hnz2 : ¬ jB (rk d n) (rs d n) (rb d n)=true:=fun h=>by
            have:=(cW.1 h).1
            omega
           rw[if_neg hnz2,decide_eq_true_eq] at hf2
           have ht:=hf2.2.2.2.2.1
           unfold jA at ht
           have hrq:rs d n/128=s/128:=by omega
           rw[decide_eq_false (by omega),Bool.false_or,hrq,decide_eq_false h2,Bool.false_or,e8] at ht
           have hro2:rb d n (s/128)=b (s/128):=hro.symm
           rw[hro2] at ht
           have hcl:(cut d (128*b (s/128)+rs d n%128) (128 - rs d n%128)).length=128 - rs d n%128:=aZ (by omega)
           have:=ht (s%128+r - rs d n%128) (by rw[hcl];omega)
           rw[a8 (by omega) (by omega)] at this
           rw[← this]
           congr 1
           omega
         · have h6:b (s/128)=b q:=by omega
           have:=W.inj _ _ hq12 hq q2 h6
           rw[← this] at h4
           exact h2 h4
   · unfold part
     have hnd:List.Pairwise (fun x y:Nat=>x≠y) (((List.range 12).map (rb e n)).filter (·≠0)):=by
      rw[List.filter_map]
      refine List.pairwise_map.2 (List.pairwise_filter.2 ?_)
      have hr:(List.range 12).Pairwise fun x y=>x≠y:=List.nodup_range
      refine hr.imp_of_mem fun {x y} hx hy hxy hx0 hy0 he=>hxy ?_
      have hx:=List.mem_range.1 hx
      have hy:=List.mem_range.1 hy
      rw[f3 x hx,f3 y hy] at he
      have hx0:rb e n x≠0:=by simpa using hx0
      rw[f3 x hx] at hx0
      exact W.inj x y hx hy hx0 he
     exact hnd
   · obtain⟨h1,q,hq,h2⟩:=(hpe x).1 hx
     exact hoth m hm hmn x hx' q hq (by rw[h2];exact h1) h2.symm
   · rw[hbe,W.bits,ll hok]
     constructor
     · rintro((h | ⟨m,hm,h⟩) | ⟨q,hq,h1,h2⟩)
       · exact .inl h
       · by_cases hmn:m=n
         · subst hmn
           obtain⟨h3,q,hq,h4⟩:=dJ.1 h
           exact .inr (.inl ((hpe j).2 ⟨h3,q,hq,by rw[W.old q (by rw[h4];exact h3)];exact h4⟩))
         · exact .inr (.inr ⟨m,hm,hmn,h⟩)
       · exact .inr (.inl ((hpe j).2 ⟨by rw[← h2];exact h1,q,hq,h2⟩))
     · rintro(h | h | ⟨m,hm,_,h⟩)
       · exact .inl (.inl h)
       · obtain⟨h1,q,hq,h2⟩:=(hpe j).1 h
         exact .inr ⟨q,hq,by rw[h2];exact h1,h2⟩
       · exact .inl (.inr ⟨m,hm,h⟩)
  have g0:=mj hpl hOk
  have hkinds : ∀ m,m<32→rk e m=rk d m:=fun m hm=>by
   by_cases hmn:m=n
   · rw[hmn,f1,hk]
   · exact(dQ (hslot m hm hmn)).1
  have hdle : ∀ m,m∈(T0 e).dl↔m∈(T0 d).dl:=fun m=>by
   rw[bY,bY]
   constructor
   · rintro⟨a,c⟩;exact⟨a,by rw[← hkinds m a];exact c⟩
   · rintro⟨a,c⟩;exact⟨a,by rw[hkinds m a];exact c⟩
  have hcont : ∀ m∈(T0 d).dl,ay e m=ay d m:=fun m hm=>by
   obtain⟨a,c⟩:=bY.1 hm
   have hmn:m≠n:=fun h=>by rw[h] at c;omega
   exact eO h0 g0 a (by omega) ⟨hslot m a hmn,hblk m a hmn⟩
  have hch:(T0 e).ch=(T0 d).ch:=funext fun m=>by
   by_cases hm:m∈(T0 d).dl
   · rw[(T0 e).kS ((hdle m).2 hm),(T0 d).kS hm,yv,yv,hcont m hm]
   · rw[(T0 e).kE fun h=>hm ((hdle m).1 h),(T0 d).kE hm]
  refine rL g0 (fun m hm=>?_) ⟨fun m hm x hx=>?_,fun m hm=>?_,fun m hm m' hm' x hx hx'=>?_⟩ fun m hm hmk=>?_
  · rw[hcont m ((hdle m).1 hm)]
    exact hE m ((hdle m).1 hm)
  · rw[hch] at hx
    obtain⟨q1,q2,q3⟩:=hG.fine.ok m ((hdle m).1 hm) x hx
    exact⟨q1,q2,by show rk e x≠0;rw[hkinds x q2];exact q3⟩
  · rw[hch]
    exact hG.fine.nd m ((hdle m).1 hm)
  · rw[hch] at hx hx'
    exact hG.fine.one m ((hdle m).1 hm) m' ((hdle m').1 hm') x hx hx'
  · rw[hch]
    exact ru h38 hm (by rw[← hkinds m hm];exact hmk)
theorem vz {d:List UInt8} (h38:aM d=0) {n:Nat} (hn:n<32) (hk:rk d n=1) (hs:rs d n=0) (hz : ∀ i,i<12→rb d n i=0) {data:List UInt8} (h1:1≤data.length) (h2:data.length≤128) {x:Nat} (hx:cI (bA d)=some x) :
 ∃ e,bQ d n data=(e,0)∧e.length=12288∧aM e=0∧a7 e n=0∧rk e n=1∧ay e n=data∧(∀ m,¬ (1664≤m∧m<1676)→¬ (1792+16*n≤m∧m<1792+16*n+16)→m/128≠x→aJ e m=aJ d m):=by
 obtain⟨h0,hG,hE⟩:=bx h38
 obtain⟨hd,hok⟩:=bl h0
 obtain⟨hx1,hx2⟩:=dK hx
 have hg:a7 d n=0:=(di h0).2 ⟨hn,by omega⟩
 obtain⟨b',hb'⟩ : ∃ b':Nat→Nat,b'=fun j=>if j=0 then x else rb d n j:=⟨_,rfl⟩
 have hwt:wt d (rb d n) ((data.length+127)/128)=some (cG d x,b'):=by
  rw[show(data.length+127)/128=0+1 by omega]
  unfold wt
  show(if rb d n 0=0 then (match cI (bA d) with
   | none=>none
   | some x=>some (cG d x,fun j=>if j=0 then x else rb d n j)) else some (d,rb d n))=_
  rw[if_pos (hz 0 (by decide)),hx,hb']
 have hw:bQ d n data=(cS (wd (cG d x) b' data data.length) n 1 data.length b',0):=by
  unfold bQ
  rw[if_neg (by rw[hg];simp),if_neg (by omega),hk,if_neg (by simp;omega),hwt,hs,Nat.zero_max]
 have hok38:=wS h38 hg hk (data:=data) (by rw[hw])
 rw[hw] at hok38
 have hbx:b' 0=x:=by rw[hb'];rfl
 have htl:=cY hd hx2
 have hwl:(wd (cG d x) b' data data.length).length=12288:=by rw[ka,htl]
 have hwb:=fun m=>x9 (o:=cG d x) (data:=data) (b:=b') h2 (by rw[hbx,htl];omega) (Nat.le_refl _) m
 rw[hbx] at hwb
 have hpb:=fun m=>bO hwl hn 1 data.length b' m
 have hpl:=bf hwl hn 1 data.length b'
 have hpbl:(cq (bA d) x true).length=12:=by rw[bz,aU hd]
 have hz128:(List.replicate 128 (0:UInt8)).length=128:=List.length_replicate
 have htb : ∀ m,¬ (1664≤m∧m<1676)→m/128≠x→aJ (cG d x) m=aJ d m:=fun m hm hmx=>by
  unfold cG
  rw[cu (by rw[aP hd hpbl,hz128];omega),hz128,if_neg (by omega),aX hd hpbl,if_neg hm]
 obtain⟨e,he⟩ : ∃ e,e=cS (wd (cG d x) b' data data.length) n 1 data.length b':=⟨_,rfl⟩
 rw[← he] at hw hok38 hpb hpl
 obtain⟨g0,-,-⟩:=bx hok38
 have i0:=gL 1 data.length b'
 have hke:rk e n=1:=by
  show aJ e (1792+16*n+0)=1
  rw[hpb,if_pos (by omega),show 1792+16*n+0 - (1792+16*n)=0 by omega,i0.1]
 have hse:rs e n=data.length:=by
  unfold rs
  rw[hpb,hpb,if_pos (by omega),if_pos (by omega),show 1792+16*n+1 - (1792+16*n)=1 by omega,show 1792+16*n+2 - (1792+16*n)=2 by omega,i0.2.1,i0.2.2.1]
  omega
 have hbe : ∀ j,j<12→rb e n j=if j=0 then x else 0:=fun j hj=>by
  show aJ e (1792+16*n+(3+j))=_
  rw[hpb,if_pos (by omega),show 1792+16*n+(3+j) - (1792+16*n)=3+j by omega,jd _ _ _ hj,hb']
  dsimp only
  by_cases hj0:j=0
  · rw[if_pos hj0,if_pos hj0]
    omega
  · rw[if_neg hj0,if_neg hj0,hz j hj]
 have hge:a7 e n=0:=(di g0 (m:=n)).2 ⟨hn,by rw[hke];decide⟩
 refine⟨e,hw,hpl,hok38,hge,hke,?_,fun m m1 m2 m3=>?_⟩
 · have hcl:(dC e (rb e n) 12).length=128*12:=fD hpl fun j hj=>by rw[hbe j hj];split<;>omega
   unfold ay
   rw[if_neg (by rw[hge];simp),hse]
   refine bW (by rw[List.length_take,hcl];omega) fun m hm=>?_
   rw[List.length_take,hcl] at hm
   have hm:m<data.length:=by omega
   have ht:aJ ((dC e (rb e n) 12).take data.length) m=aJ (dC e (rb e n) 12) m:=by
    unfold aJ
    rw[List.getD_eq_getElem?_getD,List.getD_eq_getElem?_getD,List.getElem?_take,if_pos hm]
   rw[ht,nT hpl (fun j hj=>by rw[hbe j hj];split<;>omega) 12 (Nat.le_refl _),show m/128=0 by omega,hbe 0 (by decide),if_pos rfl,if_pos (by omega),hpb,if_neg (by omega),hwb,if_pos (by omega)]
   congr 1
   omega
 · rw[hpb,if_neg m2,hwb,if_neg (by omega),htb m m1 m3]
theorem Ac {d p:List UInt8} {names:List (List UInt8)} {at0 k n:Nat} (h38:aM d=0) (hs:aL p=(names,0)) (hn:names≠[]) (hf:aT d names.dropLast 0=(at0,0))
 (hdl:at0∈(T0 d).dl) (hnew:db ((T0 d).E at0) (names.getLastD [])=none) (hfe:db ((T0 d).E at0) []=some k) (hfr:fy d=some n) :
 (bE d p 1).2.1=eX (cS d n 1 0 (fun _=>0)) at0 k (iF (names.getLastD [],n)):=by
 obtain⟨h0,hG,hE⟩:=bx h38
 have hsn:=dH p
 rw[hs] at hsn
 have hlv:cK (names.getLastD [])=true:=hsn _ (List.mem_of_getElem? (eG hn))
 have hA:aN d 1=(n,cS d n 1 0 (fun _=>0),0):=by
  unfold aN
  rw[if_neg (show ¬ dM d≠0 by rw[h0];simp),hfr]
  rfl
 have hmw:=rj h38 (kind:=1) (.inl rfl) (by rw[hA]) hdl hlv hfe
 rw[hA] at hmw
 dsimp only at hmw
 rw[← hmw]
 unfold bE
 rw[if_neg (show ¬ aM d≠0 by rw[h38];simp),hs]
 dsimp only
 rw[if_neg (by decide),if_neg (by omega),if_neg hn,hf]
 dsimp only
 rw[if_neg (by decide),fI h38 hdl]
 dsimp only
 rw[if_neg (by decide),if_neg (by rw[hnew];simp),hfe]
 dsimp only
 rw[show(1:Int).toNat=1 from rfl,hA]
 dsimp only
 rw[if_neg (by decide)]
theorem CE {d:List UInt8} (hF:Dv d) : ∃ d1 d2,bE d [47,97] 1=(1,d1,0)∧bQ d1 1 [104,101,108,108,111]=(d2,0)∧d1.length=12288∧d2.length=12288∧aM d2=0∧cA d2 [47,97]=(1,0)∧
 a7 d2 1=0∧rk d2 1=1∧ay d2 1 = [104,101,108,108,111]:=by
 obtain⟨h38,k0,ks,es0,y,hy⟩:=hF
 have hs1:aL [47,97]=([[97]],0):=by decide
 have hdl0:0∈(T0 d).dl:=bY.2 ⟨by decide,k0⟩
 have hfr:fy d=some 1:=my (by decide) (fun j hj=>by rw[show j=0 by omega,k0];decide) (ks 1 (by decide) (by decide))
 have hn1:db ((T0 d).E 0) [97]=none:=by rw[es0];decide
 have hn2:db ((T0 d).E 0) []=some 0:=by rw[es0];decide
 obtain⟨e1,M1⟩:=Cz (p:=[47,97]) (kind:=1) (names:=[[97]]) (at0:=0) (k:=0) (n:=1) h38 hs1 (.inl rfl) (by simp) rfl hdl0 hn1 hn2 hfr (fun h=>by cases h)
 have hmf:=Ac (p:=[47,97]) (names:=[[97]]) (at0:=0) (k:=0) (n:=1) h38 hs1 (by simp) rfl hdl0 hn1 hn2 hfr
 obtain⟨d1,hd1⟩ : ∃ d1,d1=(bE d [47,97] 1).2.1:=⟨_,rfl⟩
 rw[← hd1] at hmf e1 M1
 clear hd1
 obtain⟨h0,hG,hE⟩:=bx h38
 obtain⟨hd,hok⟩:=bl h0
 obtain⟨g0,-,-⟩:=bx M1.ok
 obtain⟨hdl1,hok1⟩:=bl g0
 have hpl:=bf hd (show 1<32 by decide) 1 0 (fun _=>0)
 have hpb:=bO hd (show 1<32 by decide) 1 0 (fun _=>0)
 obtain⟨r1,r2,r3⟩:=iy hok (show 0<32 by decide) k0
 have hrb:rb (cS d 1 1 0 fun _=>0) 0 0=rb d 0 0:=by
  show aJ _ (1792+16*0+(3+0))=aJ d (1792+16*0+(3+0))
  rw[hpb,if_neg (by omega)]
 have hlx:(iF ([97],1)).length=16:=by decide
 have hb1 : ∀ m,m<2304→aJ d1 m=aJ (cS d 1 1 0 fun _=>0) m:=fun m hm=>by
  rw[hmf]
  unfold eX
  rw[hrb]
  show aJ (lay _ _ (iF ([97],1))) m=_
  rw[cu (by rw[hlx,hpl];omega),if_neg (by omega)]
 have i0:=gL 1 0 (fun _=>0)
 have hk1:rk d1 1=1:=M1.kd
 have hs1':rs d1 1=0:=by
  unfold rs
  rw[hb1 _ (by omega),hb1 _ (by omega),hpb,hpb,if_pos (by omega),if_pos (by omega),show 1792+16*1+1 - (1792+16*1)=1 by omega,show 1792+16*1+2 - (1792+16*1)=2 by omega,i0.2.1,i0.2.2.1]
 have hz1 : ∀ i,i<12→rb d1 1 i=0:=fun i hi=>by
  show aJ d1 (1792+16*1+(3+i))=0
  rw[hb1 _ (by omega),hpb,if_pos (by omega),show 1792+16*1+(3+i) - (1792+16*1)=3+i by omega,jd _ _ _ hi]
 have hbm:bA d1=bA d:=by
  refine bW (by rw[aU hdl1,aU hd]) fun j hj=>?_
  rw[aU hdl1] at hj
  unfold bA
  rw[a8 (by omega) hj,a8 (by omega) hj,hb1 _ (by omega),hpb,if_neg (by omega)]
 obtain⟨d2,w1,w2,w3,w4,w5,w6,w7⟩:=vz M1.ok (show 1<32 by decide) hk1 hs1' hz1 (data:=[104,101,108,108,111]) (by decide) (by decide) (x:=y) (by rw[hbm];exact hy)
 refine⟨d1,d2,e1,w1,hdl1,w2,w3,?_,w4,w5,w6⟩
 have hk10:rk d1 0=2:=by rw[M1.kinds 0 (by decide) (by decide)];exact k0
 obtain⟨q0,-,-⟩:=bx w3
 have hyc:=lr hy
 rw[← hbm] at hyc
 have hslot : ∀ r,r<16→aJ d2 (1792+16*0+r)=aJ d1 (1792+16*0+r):=fun r hr=>w7 _ (by omega) (by omega) (by have:=(dK hy).1;omega)
 have hsame:pT d1 d2 0:=⟨hslot,fun z hz i hi1 hi2=>by
  have hbz:=(ll hok1 z).2 (.inr ⟨0,by decide,hz⟩)
  obtain⟨hz0,j,hj,rfl⟩:=dJ.1 hz
  have hfb:=bD (hok1.form 0 (by decide)) j hj hz0
  refine w7 i (by omega) (by omega) fun hiy=>?_
  have:rb d1 0 j=y:=by omega
  rw[this,hyc] at hbz
  cases hbz⟩
 have hcs:=eO g0 q0 (show 0<32 by decide) (by omega) hsame
 have hk20:rk d2 0=2:=(hslot 0 (by decide)).trans hk10
 have hdl2:0∈(T0 d2).dl:=bY.2 ⟨by decide,hk20⟩
 have hE2:(T0 d2).E 0=(List.replicate 8 ([],0)).set 0 ([97],1):=by
  have h1:(T0 d2).E 0=(T0 d1).E 0:=by rw[yv,yv,hcs]
  rw[h1,M1.esAt,es0]
  rfl
 unfold cA
 rw[if_neg (show ¬ aM d2≠0 by rw[w3];simp),hs1]
 dsimp only
 rw[if_neg (by decide)]
 unfold aT
 rw[fI w3 hdl2,hE2]
 rfl
open Go Go.Proofs Go.RowKit Go.Shelf
attribute [local go_sem] Oper.semAt_some
def CO (Bs b o len:Nat) (A B:World):Prop:=(∀ v,A.cell? ⟨Bs,0,none⟩=some v→B.cell? ⟨Bs,0,none⟩=some v)∧
 ∀ j,j<len→(∃ x:Int,A.cell? ⟨b,o+j,none⟩=some (.int .u8 x))→∃ x:Int,B.cell? ⟨b,o+j,none⟩=some (.int .u8 x)
theorem CO.trans {Bs b o len:Nat} {A B C:World} (h:CO Bs b o len A B) (k:CO Bs b o len B C):CO Bs b o len A C:=
 ⟨fun v hv=>k.1 v (h.1 v hv),fun j hj hx=>k.2 j hj (h.2 j hj hx)⟩
theorem CO.put {Bs b o len:Nat} (W:World) (l:Nat) (x x':Obj) (h:W.heap[l]? = some x) (hc:x.isCells=false):CO Bs b o len W (W.putObj l x'):=by
 have key : ∀ a:Addr,∀ v,W.cell? a=some v→(W.putObj l x').cell? a=some v:=fun a v hv=>
  cell_kept hv (grownBy_putObj' W l x') fun r e=>by cases e;exact⟨x,h,hc⟩
 exact⟨fun v hv=>key _ v hv,fun j hj ⟨y,hy⟩=>⟨y,key _ _ hy⟩⟩
def kD (len k:Nat):List Nat:=(List.range k).map fun q=>len - 1 - q
theorem mv (len k:Nat):kD len (k+1)=kD len k ++ [len - 1 - k]:=by simp[kD,List.range_succ]
set_option maxRecDepth 100000 in
set_option maxHeartbeats 2000000 in
theorem uk (F:Fence) (n:Nat) (hf:F.fn 185) (hro:F.round=none) (hn:1≤n) (l Bs b off len cap:Nat) (hreach:len≤1000000) (J Jx:List (Fin len×Int)→World→Prop)
 (hY : ∀ pre x W,J pre W→pre.length<len→YieldAt F (n - 1) Tryz.prog l #[.int .i64 (x.1.val:Int),.int .u8 x.2] W fun e W'=>
  (e = .returned (.bool true)∧J (pre ++ [x]) W'∧CO Bs b off len W W')∨(e = .returned (.bool false)∧Jx (pre ++ [x]) W'))
 (W:World) (hBs:W.cell? ⟨Bs,0,none⟩=some (.slice (some ⟨b,off,none⟩) len cap)) (hc : ∀ j,j<len→∃ x:Int,W.cell? ⟨b,off+j,none⟩=some (.int .u8 x)) (h0:J [] W) :
 CallsIn F n Tryz.prog 185 #[.func (.yield l) #[] #[],.pointer (some ⟨Bs,0,none⟩)] W fun e W'=>(∃ v,e = .returned v)∧
  ((∃ ys,ys.map (·.1.val)=kD len len∧J ys W')∨(∃ pre,True∧Jx pre W')):=by
 refine callsIn_of_wp Tryz.func185 rfl hf ?_ hro
 simp only[Tryz.ntmps185,List.size_toArray,List.length_cons,List.length_nil,Nat.reduceAdd,Nat.reduceSub,Array.replicate_succ,Array.replicate_zero,List.push_toArray,List.append_toArray,List.nil_append,List.cons_append]
 gi_wp2
 gi_loopw [3] (fun i wr=>∃ (k:Nat) (pre:List (Fin len×Int)),k≤len∧i = .int .i64 ((len:Int) - 1 - k)∧pre.map (·.1.val)=kD len k∧J pre wr∧wr.cell? ⟨Bs,0,none⟩=some (.slice (some ⟨b,off,none⟩) len cap)∧∀ j,j<len→∃ x:Int,wr.cell? ⟨b,off+j,none⟩=some (.int .u8 x))
  (fun i _=>(intOf i+1).toNat)
 case atStart=>
  exact⟨0,[],Nat.zero_le _,by simp,rfl,h0,hBs,hc⟩
 case round=>
  obtain⟨k,pre,hk,rfl,hpre,hJs,hBs',hcs⟩:=hrel
  have hpl:pre.length=k:=by
   have:=congrArg List.length hpre
   simpa [kD] using this
  by_cases hlt:k<len
  · obtain⟨i,hi⟩ : ∃ i:Nat,i+1+k=len:=⟨len - 1 - k,by omega⟩
    have hii:(len:Int) - 1 - k=(i:Int):=by omega
    have hil:i<len:=by omega
    rw[hii]
    obtain⟨x,hx⟩:=hcs i hil
    obtain⟨fn,tmps,assign,body,hy,hR⟩:=hY pre (⟨i,hil⟩,x) wr hJs (by omega)
    dsimp only at hy
    have hge:(0:Int)≤(i:Int):=by omega
    gi_wp2
    refine hR.mono ?_
    rintro e W3 (⟨rfl,hJ3,hk3⟩ | ⟨rfl,hJx3⟩)
    · gi_wp2
      go_roundw
      case rel=>exact⟨k+1,pre ++ [(⟨i,hil⟩,x)],by omega,by simp;omega,by rw[List.map_append,hpre,mv,show len - 1 - k=i by omega];rfl,hJ3,hk3.1 _ hBs',fun j hj=>hk3.2 j hj (hcs j hj)⟩
      case measure=>simp[intOf]
    · gi_wp2
      refine bodyPost_ret (results_none rfl _ _ _) rfl ?_
      exact⟨⟨_,rfl⟩,.inr ⟨_,trivial,hJx3⟩⟩
  · obtain rfl:k=len:=by omega
    have hii:(k:Int) - 1 - k = -1:=by omega
    rw[hii]
    gi_wp2
    go_end0
    exact⟨⟨_,rfl⟩,.inl ⟨_,hpre,hJs⟩⟩
theorem rv (F:Fence) (n:Nat) (hf:F.fn 185) (hro:F.round=none) (hn:1≤n) (Bs b off len cap:Nat) (hreach:len≤1000000) (w:World) (hBs:Bs<w.heap.size) (hb:b<w.heap.size)
 (hc0:w.cell? ⟨Bs,0,none⟩=some (.slice (some ⟨b,off,none⟩) len cap)) (hcs : ∀ j,j<len→∃ x:Int,w.cell? ⟨b,off+j,none⟩=some (.int .u8 x)) :
 SeqStopsK F n Tryz.prog 185 #[.pointer (some ⟨Bs,0,none⟩)] (fun x:Fin len×Int=>#[Value.int .i64 (x.1.val:Int),.int .u8 x.2]) (CO Bs b off len) (fun ys=>ys.map (·.1.val)=kD len len) (fun _=>True) len w:=
 fun l J Jx W hW _ _ hY h0=>uk F n hf hro hn l Bs b off len cap hreach J Jx hY W ((hW.cell (p:=⟨Bs,0,none⟩) hBs).trans hc0)
  (fun j hj=>by obtain⟨x,hx⟩:=hcs j hj;exact⟨x,(hW.cell (p:=⟨b,off+j,none⟩) hb).trans hx⟩) h0
set_option maxHeartbeats 1000000 in
theorem vX (F:Fence) (n:Nat) (hf:F.fn 161) (hro:F.round=none) (a:Option Addr) (len cap:Nat) (w:World) :
 CallsIn F n Tryz.prog 161 #[.slice a len cap] w fun e w'=>e = .returned (.func (.func 185) #[] #[.pointer (some ⟨w.heap.size,0,none⟩)])∧w'=w.alloc (.cells #[.slice a len cap] 23):=by
 refine callsIn_of_wp Tryz.func161 rfl hf ?_ hro
 simp only[Tryz.ntmps161,List.size_toArray,List.length_cons,List.length_nil,Nat.reduceAdd,Nat.reduceSub,Array.replicate_succ,Array.replicate_zero,List.push_toArray,List.append_toArray,List.nil_append,List.cons_append]
 gi_wp2
 go_ret
 exact⟨rfl,rfl⟩
end Go.Proofs.YtfeoedkmndkbjaaGreatDoor
namespace Go.Proofs.YtfeoedkmndkbjaaGreatDoor
open Go Go.Proofs Go.RowKit Go.Shelf Go.Sx
attribute [local go_sem] Oper.semAt_some
def xM (d:List UInt8) (o n:Nat) (is:List Nat):List UInt8×Nat:=is.foldl (fun s i=>(dm s.1 (o+i) (s.2%256),s.2/256)) (d,n)
theorem ra (d:List UInt8) (o n:Nat) (is:List Nat) (i:Nat):xM d o n (is ++ [i])=(dm (xM d o n is).1 (o+i) ((xM d o n is).2%256),(xM d o n is).2/256):=by
 unfold xM
 rw[List.foldl_append]
 rfl
theorem uU (d:List UInt8) (o n:Nat) : ∀ is:List Nat,(xM d o n is).1.length=d.length:=by
 intro is
 induction is generalizing d n with
 | nil=>rfl
 | cons i is ih=>
  show(xM (dm d (o+i) (n%256)) o (n/256) is).1.length=_
  rw[ih,dn]
theorem CU (d:List UInt8) (o n:Nat) (len:Nat) : ∀ k,(xM d o n (kD len k)).2=n/256 ^ k:=by
 intro k
 induction k with
 | zero=>simp[kD,xM]
 | succ k ih=>rw[mv,ra,ih,Nat.div_div_eq_div_mul,Nat.pow_succ]
theorem Dh (d:List UInt8) (o n len:Nat) (h:o+len≤d.length) : ∀ k,k≤len→∀ m,aJ (xM d o n (kD len k)).1 m=if o+(len - k)≤m∧m<o+len then n/256 ^ (o+len - 1 - m)%256 else aJ d m:=by
 intro k
 induction k with
 | zero=>
  intro _ m
  rw[if_neg (by omega)]
  rfl
 | succ k ih=>
  intro hk m
  rw[mv,ra,dy (by rw[uU];omega) (Nat.mod_lt _ (by decide)),CU,ih (by omega)]
  by_cases h1:m=o+(len - 1 - k)
  · rw[if_pos h1,if_pos (by omega),show o+len - 1 - m=k by omega]
  · rw[if_neg h1]
    by_cases h2:o+(len - k)≤m∧m<o+len
    · rw[if_pos h2,if_pos (by omega)]
    · rw[if_neg h2,if_neg (by omega)]
theorem A6 (n k i:Nat) (hi:i<k):aJ (gj n k) i=n/256 ^ (k - 1 - i)%256:=by
 unfold aJ gj
 rw[List.getD_eq_getElem?_getD,List.getElem?_map,List.getElem?_range hi]
 show(UInt8.ofNat _).toNat=_
 rw[UInt8.toNat_ofNat',Nat.pow_mul]
theorem gq (n k:Nat):(gj n k).length=k:=by simp[gj]
theorem CR (d:List UInt8) (o n len:Nat) (h:o+len≤d.length):(xM d o n (kD len len)).1=lay d o (gj n len):=by
 refine bW (by rw[uU,ct (by rw[gq];exact h)]) fun m hm=>?_
 rw[Dh d o n len h len (Nat.le_refl _),cu (by rw[gq];exact h),gq,Nat.sub_self,Nat.add_zero]
 by_cases h1:o≤m∧m<o+len
 · rw[if_pos h1,if_pos h1,A6 _ _ _ (by omega)]
   congr 3
   omega
 · rw[if_neg h1,if_neg h1]
end Go.Proofs.YtfeoedkmndkbjaaGreatDoor
namespace Go.Proofs.YtfeoedkmndkbjaaGreatDoor
open Go Go.Proofs Go.RowKit Go.Shelf Go.Sx
attribute [local go_sem] Oper.semAt_some
structure Ef (w:World) (b:Nat) (C:List Value) (et:TypeId) (W:World):Prop where
 os:W.os=w.os
 tape:W.tape=w.tape
 output:W.output=w.output
 size:w.heap.size≤W.heap.size
 same : ∀ k,k<w.heap.size→k≠b→W.heap[k]? = w.heap[k]?
 row:W.heap[b]? = some (.cells C.toArray et (0,0))
structure vN (w:World) (b o len cap:Nat) (Z:List Value) (et:TypeId) (s:List UInt8×Nat) (W:World):Prop where
 os:W.os=w.os
 tape:W.tape=w.tape
 output:W.output=w.output
 size:w.heap.size+3≤W.heap.size
 same : ∀ k,k<w.heap.size→k≠b→W.heap[k]? = w.heap[k]?
 row:W.heap[b]? = some (.cells (s.1.map ao++Z).toArray et (0,0))
 bx2:W.heap[w.heap.size]? = some (.cells #[.slice (some ⟨b,o,none⟩) len cap] 23 (0,0))
 bx3:W.heap[w.heap.size+1]? = some (.cells #[.int .u64 (s.2:Int)] 178 (0,0))
theorem vN.own {w:World} {b o len cap:Nat} {Z:List Value} {et:TypeId} {α:Type} (f:α→List UInt8×Nat) (hb:b<w.heap.size):OwnFrom (w.heap.size+3) fun(pre:α) W=>vN w b o len cap Z et (f pre) W:=by
 intro s A B row hs hg hr
 obtain⟨g1,g2,g3,g4,g5⟩:=hg
 have key : ∀ k,k<w.heap.size+3→B.heap[k]? = A.heap[k]?:=fun k hk=>g5 k (Nat.lt_of_lt_of_le hk hs.size) fun e=>by
  have:=(hr k e.symm).1
  omega
 exact⟨g1.trans hs.os,g2.trans hs.tape,g3.trans hs.output,Nat.le_trans hs.size g4,fun k hk hkb=>(key k (by omega)).trans (hs.same k hk hkb),(key b (by omega)).trans hs.row,(key _ (by omega)).trans hs.bx2,(key _ (by omega)).trans hs.bx3⟩
set_option maxRecDepth 100000 in
set_option maxHeartbeats 2000000 in
theorem DV (F:Fence) (n:Nat) (h1:F.fn 140) (h2:F.fn 161) (h3:F.fn 185) (hro:F.round=none) (hn:3≤n) (b o len cap:Nat) (d:List UInt8) (Z:List Value) (q:Nat)
 (hol:o+len≤d.length) (hlen:len≤1000000) (w:World) (et:TypeId) (hrow:w.heap[b]? = some (.cells (d.map ao++Z).toArray et (0,0))) :
 CallsIn F n Tryz.prog 140 #[.slice (some ⟨b,o,none⟩) len cap,.int .u64 (q:Int)] w fun e W'=>(∃ v,e = .returned v)∧Ef w b ((lay d o (gj q len)).map ao++Z) et W':=by
 have hn1:1≤n:=by omega
 refine callsIn_of_wp_marks Tryz.func140 rfl h1 ?_ hro
 simp only[Tryz.ntmps140,List.size_toArray,List.length_cons,List.length_nil,Nat.reduceAdd,Nat.reduceSub,Array.replicate_succ,Array.replicate_zero,List.push_toArray,List.append_toArray,List.nil_append,List.cons_append]
 gi_wp2_with (gi_at_call 161;refine(vX F (n - 1) h2 hro _ _ _ _).mono ?_;rintro e w' ⟨rfl,rfl⟩)
 have hb:b<w.heap.size:=aW hrow
 obtain⟨W0,hW0⟩ : ∃ W0,((w.alloc (Obj.cells #[Value.slice (some { block:=b,off:=o }) len cap] 23)).alloc (Obj.cells #[Value.int IntKind.u64 (q:Int)] 178)).alloc (Obj.cells #[Value.slice (some { block:=b,off:=o }) len cap] 23)=W0:=⟨_,rfl⟩
 have hal : ∀ (W:World) (x:Obj) (k:Nat),k<W.heap.size→(W.alloc x).heap[k]? = W.heap[k]?:=fun W x k hk=>Below.heap_alloc W x k hk
 have hsz:W0.heap.size=w.heap.size+3:=by rw[← hW0];simp
 have hI0:vN w b o len cap Z et (d,q) W0:=by
  have hold : ∀ k,k<w.heap.size→W0.heap[k]? = w.heap[k]?:=fun k hk=>by
   rw[← hW0,hal _ _ k (by simp;omega),hal _ _ k (by simp;omega),hal _ _ k hk]
  refine⟨by rw[← hW0];rfl,by rw[← hW0];rfl,by rw[← hW0];rfl,by omega,fun k hk _=>hold k hk,(hold b hb).trans hrow,?_,?_⟩
  · rw[← hW0,hal _ _ _ (by simp;omega),hal _ _ _ (by simp)]
    exact World.alloc_heap_new _ _
  · rw[← hW0,hal _ _ _ (by simp)]
    have:=World.alloc_heap_new (w.alloc (Obj.cells #[Value.slice (some { block:=b,off:=o }) len cap] 23)) (Obj.cells #[Value.int IntKind.u64 (q:Int)] 178)
    rwa [World.size_alloc] at this
 have hBs:W0.heap[w.heap.size+2]? = some (.cells #[.slice (some ⟨b,o,none⟩) len cap] 23 (0,0)):=by
  rw[← hW0]
  have:=World.alloc_heap_new ((w.alloc (Obj.cells #[Value.slice (some { block:=b,off:=o }) len cap] 23)).alloc (Obj.cells #[Value.int IntKind.u64 (q:Int)] 178)) (Obj.cells #[Value.slice (some { block:=b,off:=o }) len cap] 23)
  rwa [World.size_alloc,World.size_alloc] at this
 have hcr : ∀ (W:World) (s:List UInt8×Nat),s.1.length=d.length→vN w b o len cap Z et s W→∀ j,j<len→∃ x:Int,W.cell? ⟨b,o+j,none⟩=some (.int .u8 x):=fun W s hs h j hj=>by
  refine⟨(aJ s.1 (o+j):Int),?_⟩
  have hlt:o+j<s.1.length:=by omega
  simp[World.cell?,h.row,List.getElem?_append_left,hlt,ao,aJ,List.getD_eq_getElem?_getD]
 rw[hW0]
 refine wpIn_rangeFunc_ownG hro hn1 (gf:=185) (lb:=#[.pointer (some ⟨w.heap.size+2,0,none⟩)]) rfl h3 (enters_of Tryz.func185 (by kernel_rfl) rfl)
  (rv F (n - 1) h3 hro (by omega) (w.heap.size+2) b o len cap hlen W0 (by omega) (by omega) (by simp[World.cell?,hBs]) (hcr W0 _ rfl hI0)) (fun h k=>h.trans k) (fun W l x x' _ hx hc _=>CO.put W l x x' hx hc) (Below.refl _ _) (fun _=>rfl)
  (fun pre W=>vN w b o len cap Z et (xM d o q (pre.map (·.1.val))) W) (fun _ _ _=>False) (by rw[hsz];exact vN.own _ hb) (fun _ _ _ _ _ hs _ _=>hs) hI0
  (fun x=>{ tmps:=#[.slice (some ⟨b,o,none⟩) len cap,.int .u64 (q:Int),.pointer (some ⟨w.heap.size,0,none⟩),.pointer (some ⟨w.heap.size+1,0,none⟩),.int .i64 (x.1.val:Int),.slice (some ⟨b,o,none⟩) len cap,.func (.func 185) #[] #[.pointer (some ⟨w.heap.size+2,0,none⟩)],.int .i64 (x.1.val:Int),.int .u8 x.2,undef,undef,undef,undef,undef,undef,undef],defers:=[] }) ?assign ?body ?done ?stop
 case assign=>
  intro l x W K hK
  gi_wp2
  exact hK
 case body=>
  rintro l pre ⟨⟨i,hi⟩,y⟩ W hI hpl
  have hst:=uU d o q (pre.map (·.1.val))
  obtain⟨s,hs⟩ : ∃ s,s=xM d o q (pre.map (·.1.val)):=⟨_,rfl⟩
  have hsn:xM d o q (List.map (fun x:Fin len×Int=>x.1.val) (pre ++ [(⟨i,hi⟩,y)]))=(dm s.1 (o+i) (s.2%256),s.2/256):=by
   rw[List.map_append,hs]
   exact ra d o q _ i
  rw[← hs] at hI hst
  clear hs
  obtain⟨z,hz⟩:=hcr W s hst hI i hi
  have c2:W.cell? ⟨w.heap.size,0,none⟩=some (.slice (some ⟨b,o,none⟩) len cap):=by simp[World.cell?,hI.bx2]
  have c3:W.cell? ⟨w.heap.size+1,0,none⟩=some (.int .u64 (s.2:Int)):=by simp[World.cell?,hI.bx3]
  have fz:W.frozen? ⟨b,o+i,none⟩=false:=by simp[World.frozen?,hI.row]
  have f3:W.frozen? ⟨w.heap.size+1,0,none⟩=false:=by simp[World.frozen?,hI.bx3]
  dsimp only
  gi_wp2
  have hv1:Value.int .u8 ((s.2:Int)%256)=ao (UInt8.ofNat (s.2%256)):=by
   unfold ao
   rw[UInt8.toNat_ofNat']
   congr 1
   omega
  have hv2:((s.2:Int)/256)=((s.2/256:Nat):Int):=by omega
  rw[hv1,hv2]
  obtain⟨W1,hW1⟩ : ∃ W1,(W.setCell ⟨b,o+i,none⟩ (ao (UInt8.ofNat (s.2%256)))).setCell ⟨w.heap.size+1,0,none⟩ (.int .u64 ((s.2/256:Nat):Int))=W1:=⟨_,rfl⟩
  have hkf:KeepsFrom W0.heap.size W W1:=by
   rw[← hW1]
   exact((KeepsOthers.setCell _ _ _).trans (KeepsOthers.setCell _ _ _)).from _
  have hot : ∀ k,k≠b→k≠w.heap.size+1→W1.heap[k]? = W.heap[k]?:=fun k hk1 hk2=>by
   rw[← hW1]
   simp[World.setCell,Array.getElem?_modify,Ne.symm hk1,Ne.symm hk2]
  have hwb:W1.heap[b]? = some (.cells ((dm s.1 (o+i) (s.2%256)).map ao++Z).toArray et (0,0)):=by
   rw[← hW1]
   have hne:w.heap.size+1≠b:=by omega
   simp only[World.setCell,Array.getElem?_modify,hI.row,hne,if_false,if_true,Option.map_some]
   rw[List.setIfInBounds_toArray,List.set_append_left _ _ (by simp;omega),← List.map_set]
   rfl
  have hw3:W1.heap[w.heap.size+1]? = some (.cells #[.int .u64 ((s.2/256:Nat):Int)] 178 (0,0)):=by
   rw[← hW1]
   have hne:b≠w.heap.size+1:=by omega
   simp[World.setCell,Array.getElem?_modify,hI.bx3,hne]
  have hg:W1.os=W.os∧W1.tape=W.tape∧W1.output=W.output∧W1.heap.size=W.heap.size:=by
   rw[← hW1]
   simp[World.setCell]
  rw[hW1]
  have hI1:vN w b o len cap Z et (dm s.1 (o+i) (s.2%256),s.2/256) W1:=
   ⟨hg.1.trans hI.os,hg.2.1.trans hI.tape,hg.2.2.1.trans hI.output,by rw[hg.2.2.2];exact hI.size,fun k hk hkb=>(hot k hkb (by omega)).trans (hI.same k hk hkb),hwb,(hot _ (by omega) (by omega)).trans hI.bx2,hw3⟩
  refine⟨hkf,⟨fun v hv=>?_,fun j hj _=>hcr W1 _ ((dn _ _ _).trans hst) hI1 j hj⟩,?_⟩
  · rw[← hv]
    exact World.cell?_of_block (hot _ (by show w.heap.size+2≠b;omega) (by show w.heap.size+2≠_;omega))
  · show vN w b o len cap Z et (xM d o q (List.map (fun x:Fin len×Int=>x.1.val) (pre ++ [(⟨i,hi⟩,y)]))) W1
    rw[hsn]
    exact hI1
 case done=>
  rintro D ys W hD hys hI hK
  gi_wp2
  refine⟨by simp,.inl ⟨_,_,rfl,run_takeDeferred hK,?_⟩⟩
  have hys':ys.map (fun x:Fin len×Int=>x.1.val)=kD len len:=hys
  rw[hys'] at hI
  have hk : ∀ k,k<w.heap.size+3→(W.putObj D (.deferred none)).heap[k]? = W.heap[k]?:=fun k hk=>World.putObj_heap_other (by omega)
  have hrw:=hI.row
  rw[CR d o q len hol] at hrw
  exact⟨_,results_none rfl _ _ _,⟨_,rfl⟩,hI.os,hI.tape,hI.output,by have:=hI.size;simp;omega,fun k hk1 hkb=>(hk k (by omega)).trans (hI.same k hk1 hkb),(hk b (by omega)).trans hrw⟩
 case stop=>
  rintro D c pre W _ _ h _
  exact h.elim
theorem Ah (b o len cap:Nat) (d:List UInt8) (Z:List Value) (q:Nat) (hol:o+len≤d.length) (hlen:len≤1000000) (w:World) (et:TypeId) (hrow:w.heap[b]? = some (.cells (d.map ao++Z).toArray et (0,0))) :
 Calls Tryz.prog 140 #[.slice (some ⟨b,o,none⟩) len cap,.int .u64 (q:Int)] w fun e W'=>(∃ v,e = .returned v)∧Ef w b ((lay d o (gj q len)).map ao++Z) et W':=
 callsIn_wide.1 (DV Fence.wide 3 trivial trivial trivial rfl (by omega) b o len cap d Z q hol hlen w et hrow)
theorem xa (b o len cap:Nat) (d:List UInt8) (Z:List Value) (q:Nat) (hol:o+len≤d.length) (hlen:len≤1000000) :
 bM Tryz.prog 140 [.slice (some ⟨b,o,none⟩) len cap,.int .u64 (q:Int)] [(b,Row.c (d.map ao++Z))] (fun _=>True) (fun v F=>F=⟨fun _=>True,[(b,Row.c ((lay d o (gj q len)).map ao++Z))]⟩):=by
 unfold bM
 refine⟨⟨_,Tryz.func140,by decide,by decide⟩,fun av w hav hrows hnd hpre=>?_⟩
 obtain⟨⟨et,hrow⟩,hnav⟩:=hrows (b,Row.c (d.map ao++Z)) (List.mem_singleton.2 rfl)
 refine(Ah b o len cap d Z q hol hlen w et hrow).mono ?_
 rintro e W ⟨⟨v,rfl⟩,hW⟩
 have hb:b<w.heap.size:=aW hrow
 refine⟨v,_,rfl,⟨hW.os,hW.tape,hW.output,hW.size,fun k x hk=>?_⟩,fun r hr=>?_,by simp,.pure trivial,rfl⟩
 · by_cases hkb:k=b
   · subst hkb
     rw[hrow] at hk
     cases hk
     exact⟨_,hW.row,.inr (.inl ⟨_,_,_,_,rfl,rfl,by simp[ct (show o+(gj q len).length≤d.length by rw[gq];exact hol)],fun i hi=>absurd ⟨_,List.mem_singleton.2 rfl,rfl⟩ hi⟩)⟩
   · exact⟨x,(hW.same k (aW hk) hkb).trans hk,.refl _ _⟩
 · rw[List.mem_singleton] at hr
   subst hr
   exact⟨⟨et,hW.row⟩,.inr ⟨⟨_,List.mem_singleton.2 rfl,rfl⟩,EC _⟩⟩
end Go.Proofs.YtfeoedkmndkbjaaGreatDoor
namespace Go.Proofs.YtfeoedkmndkbjaaGreatDoor
open Go Go.Sx
set_option maxRecDepth 100000
set_option maxHeartbeats 4000000
set_option linter.unusedVariables false
set_option linter.unusedSimpArgs false
theorem C_ (a x:Nat) : ∃ q:Nat,IntKind.u64.wrap (Sx.bits .xor .u64 (a:Int) (IntKind.u64.wrap (x:Int))*15111065706836454659)=(q:Int)∧Sx.bits .xor .u64 (q:Int) ((q/2 ^ 29:Nat):Int)=(lT a x:Int):=by
 obtain⟨q,hq⟩:=pH (Sx.bits .xor .u64 (a:Int) (IntKind.u64.wrap (x:Int))*15111065706836454659)
 refine⟨q,hq,?_⟩
 have hm:pv a x=q:=by
  unfold pv
  rw[hq]
  rfl
 have hs:lT a x=(Sx.bits .xor .u64 (pv a x:Int) ((pv a x/2 ^ 29:Nat):Int)).toNat:=by unfold lT;rfl
 rw[hm] at hs
 obtain⟨c,hc⟩ : ∃ c:Nat,Sx.bits .xor .u64 (q:Int) ((q/2 ^ 29:Nat):Int)=(c:Int):=pH _
 rw[hs,hc]
 rfl
theorem l7 (h:Nat) (l:List UInt8) (k:Hd) (hk:k.Ok l.length) (hl:l.length≤1000000):af Tryz.prog 162 [.int .u64 (h:Int),k.v l.length] (fun w=>By w k l) (fun v F=>v = .int .u64 (gv h l:Int)):=by
 refine af.aF ab Tryz.func162 rfl (by decide) (n:=Tryz.f162.ntmps - 2) rfl rfl fun w0 av=>?_
 conv=>whnf
 refine aI.loop ab (ι:=Nat×Nat) ([0,5,6,7]++List.range' 10 14) (fun x=>x.1≤l.length∧x.2=gv h (l.take x.1))
  (fun x=>[(0,.v (.int .u64 (x.2:Int))),(10,.v (.int .i64 (x.1:Int)))]) (fun _=>[]) (fun _=>⟨fun w=>By w k l,[]⟩)
  (fun x=>l.length - x.1) (0,h) ⟨Nat.zero_le _,rfl⟩ ?_ rfl (aq.refl _) fun x hx=>?_
 · conv=>whnf
   repeat (first | exact aw.nil | refine aw.any ?_ | refine aw.cons ?_)
 obtain⟨i,a⟩:=x
 obtain⟨hi,ha⟩:=hx
 dsimp only at hi ha ⊢
 conv=>whnf
 refine aH.split (fun hlt=>?_) (fun hlt=>?_)
 · have hlt':i<l.length:=by
    simp only[au,decide_eq_true_eq] at hlt
    omega
   have hft:=rq (h:=h) hlt'
   rw[← ha] at hft
   obtain⟨q,hq,hs⟩:=C_ a (aJ l i)
   rw[← hft] at hs
   conv=>whnf
   repeat (refine aa.of ?_;conv=>whnf)
   refine aj.ah (ai.cL ab (t:=23) rfl rfl rfl rfl i rfl hlt' hk fun ad had=>?_)
   conv=>whnf
   repeat (refine aa.of ?_;conv=>whnf)
   refine aj.ah (ai.cy ab (t:=5) rfl rfl had (.fact fun w h=>h) rfl hlt' ?_)
   conv=>whnf
   repeat (refine aa.of ?_;conv=>whnf)
   rw[hq]
   refine aj.ah (ai.shr (a:=q) (j:=29) rfl (by decide) ?_)
   conv=>whnf
   repeat (refine aa.of ?_;conv=>whnf)
   rw[hs]
   refine⟨(i+1,gv h (l.take (i+1))),⟨⟨hlt',rfl⟩,by dsimp only;omega⟩,?_,?_,aq.refl _⟩
   · conv=>whnf
     refine⟨?_,rfl⟩
     repeat (first | exact aw.nil | refine aw.any ?_ | refine aw.cons ?_ | refine aw.eq (by rw[wrap_i64 (by omega)];rfl) ?_)
   · conv=>whnf
     exact trivial
 · have hie:i=l.length:=by
    simp only[au,decide_eq_false_iff_not] at hlt
    omega
   subst hie
   rw[List.take_length] at ha
   subst ha
   conv=>whnf
   repeat (refine aa.of ?_;conv=>whnf)
   exact⟨_,aq.refl _,rfl⟩
theorem vB (h:Nat) (hh:h<1000000000) (c:Nat) (hc:c=0):af Tryz.prog 163 [.slice none c 0,.int .i64 (h:Int)] (fun _=>True) (fun v F=>lq (fR h) v F):=by
 subst hc
 refine af.aF ab Tryz.func163 rfl (by decide) (n:=Tryz.f163.ntmps - 2) rfl rfl fun w0 av=>?_
 conv=>whnf
 generalize h8:(8:Int)=n8
 refine aI.loop ab (ι:=Nat×Option Addr×Nat×List Value×List UInt8) ([0,5]++List.range' 6 13) (fun x=>x.1≤8∧x.2.2.2.2=(List.range x.1).map (fun j=>UInt8.ofNat (h/256 ^ j))∧Go.Sx.Own 1 x.1 x.2.1 x.2.2.1 x.2.2.2.1 (x.2.2.2.2.map ao))
  (fun x=>[(0,.v (.slice x.2.1 x.1 x.2.2.1)),(6,.v (.int .i64 (x.1:Int)))]) (fun _=>[]) (fun x=>⟨fun _=>True,aR x.2.1 x.2.2.2.1⟩)
  (fun x=>8 - x.1) (0,none,0,[],[]) ⟨Nat.zero_le _,rfl,Go.Sx.Own.nil 1⟩ ?_ rfl (aq.of_le ⟨by simp[aR],fun w hw=>hw⟩) fun x hx=>?_
 · conv=>whnf
   repeat (first | exact aw.nil | refine aw.any ?_ | refine aw.cons ?_)
 obtain⟨i,a,cap,C,l⟩:=x
 obtain⟨hi,hll,hO⟩:=hx
 dsimp only at hi hll hO ⊢
 subst h8
 conv=>whnf
 refine aH.split (fun hlt=>?_) (fun hlt=>?_)
 · have hlt':i<8:=by
    simp only[au,decide_eq_true_eq] at hlt
    omega
   have e1:IntKind.i64.wrap (8*(i:Int))=((8*i:Nat):Int):=by rw[wrap_i64 (by omega)];omega
   have e2:IntKind.u64.wrap (h:Int)=(h:Int):=by
    simp[IntKind.wrap,IntKind.bits,IntKind.signed]
    omega
   have e3:h/2 ^ (8*i)=h/256 ^ i:=by rw[Nat.pow_mul]
   conv=>whnf
   repeat (refine aa.of ?_;conv=>whnf)
   rw[e2]
   refine aj.ah (ai.shr (a:=h) (j:=8*i) e1 (by show _≤64;omega) ?_)
   rw[e3]
   conv=>whnf
   repeat (refine aa.of ?_;conv=>whnf)
   generalize hqq:h/256 ^ i=q
   rw[lG]
   refine aj.build ab (t:=23) rfl rfl rfl [ao (UInt8.ofNat q)] rfl rfl (by simp[ao,Value.cells]) (by decide) fun b0=>?_
   conv=>whnf
   repeat (refine aa.of ?_;conv=>whnf)
   refine aj.c_ (F':=⟨fun _=>True,[]++aR a C ++ [(b0,Row.c [ao (UInt8.ofNat q)])]⟩) (aq.of_le ⟨by simp[ao,Value.cells],fun w hw=>hw⟩) ?_
   refine aj.append ab (t:=23) (xt:=23) rfl rfl rfl rfl rfl rfl (r1:=[]) (r2:=[(b0,Row.c [ao (UInt8.ofNat q)])]) (M:=[ao (UInt8.ofNat q)]) hO (bp.row (by simp)) rfl pU (by omega) (by simp;omega) fun a' c' C' hO'=>?_
   conv=>whnf
   repeat (refine aa.of ?_;conv=>whnf)
   refine⟨(i+1,a',c',C',l ++ [UInt8.ofNat q]),⟨⟨hlt',?_,?_⟩,by dsimp only;omega⟩,?_,?_,?_⟩
   · dsimp only
     rw[List.range_succ,List.map_append,List.map_singleton,hll,← hqq]
   · dsimp only
     rw[List.map_append]
     exact hO'
   · conv=>whnf
     refine⟨?_,rfl⟩
     repeat (first | exact aw.nil | refine aw.any ?_ | refine aw.cons ?_ | refine aw.eq (by rw[wrap_i64 (by omega)];rfl) ?_)
   · conv=>whnf
     exact trivial
   · exact aq.of_le ⟨by simp,fun w hw=>hw⟩
 · have hie:i=8:=by
    simp only[au,decide_eq_false_iff_not] at hlt
    omega
   subst hie
   conv=>whnf
   have hl8:l.length=8:=by rw[hll];simp
   have hle:fR h=l:=hll.symm
   rw[hle]
   refine⟨⟨fun w=>aB w a (l.map ao),[]⟩,(Go.Sx.Own.gives hO).trans (aq.imp fun w hw=>hw.2),⟨a,cap⟩,?_,?_,rfl⟩
   · rw[hl8]
   · rw[hl8]
     exact hO.hd
theorem AV (l:List UInt8) (k:Hd) (hk:k.Ok l.length) (hl:l.length≤1000000):af Tryz.prog 141 [k.v l.length] (fun w=>By w k l) (fun v F=>v = .int .u64 (ofM l:Int)):=by
 have hof:ofM l=gv (gv 125762890854254 l) (fR l.length):=rfl
 have hml:(fR l.length).length=8:=by simp[fR]
 have he:=vB l.length (by omega) 0 rfl
 generalize ofM l=om at *
 generalize fR l.length=m at *
 refine af.aF ab Tryz.func141 rfl (by decide) (n:=Tryz.f141.ntmps - 1) rfl rfl fun w0 av=>?_
 conv=>whnf
 repeat (refine aa.of ?_;conv=>whnf)
 have hf1:=l7 125762890854254 l k hk hl
 generalize gv 125762890854254 l=a at *
 refine ak.val hf1 (fun w hw=>hw) (fun v D hv=>?_)
 subst hv
 conv=>whnf
 repeat (refine aa.of ?_;conv=>whnf)
 refine ak.pure he (fun w hw=>trivial) (fun v D hv=>?_)
 obtain⟨km,rfl,hkm,rfl⟩:=hv
 conv=>whnf
 repeat (refine aa.of ?_;conv=>whnf)
 refine ak.val (l7 a m km hkm (by omega)) (fun w hw=>hw.2) (fun v D hv=>?_)
 rw[← hof] at hv
 subst hv
 conv=>whnf
 repeat (refine aa.of ?_;conv=>whnf)
 exact⟨_,aq.refl _,rfl⟩
def AR:List UInt8:=lay (dm (lay (List.replicate 128 0) 0 [74,82,78,48]) 4 0) 16 (gj 0 4)
theorem uw:AR=kR++List.replicate 108 0:=by decide +kernel
theorem gY:kR.length=20:=by decide +kernel
theorem tH:AR.take 20=kR:=by
 rw[uw,← gY,List.take_left]
theorem BB {m:List UInt8} (hm:m.length=8):lay AR 20 m=kR++m++List.replicate 100 0:=by
 unfold lay
 rw[tH,hm,uw,List.drop_append,List.drop_eq_nil_of_le (by rw[gY];decide),gY]
 simp
theorem yI (h:Hd) (l:List UInt8):Go.Sx.Loc fun w=>By w h l:=Loc.row _ _
theorem A_ {w0:World} {R:Nat→Nat→Prop} {av:Nat→Prop} {w:World} {bs:List (Nat×Nat)} {cs:List (List Value)} {F:Fx} {b cap:Nat} {l:List UInt8} {Z:List Value} (hm:(b,Row.c (l.map ao++Z))∈F.rs) (hst:St w0 R av w bs cs F):By w ⟨some ⟨b,0,none⟩,cap⟩ l:=by
 have h:=(bp.row hm w hst).take l.length
 have e:l.length=(l.map ao).length:=by simp
 rw[e,List.take_left] at h
 exact h
theorem uc (seq:Int) (hseq:seq=0) (n c:Nat) (hn:n=0):af Tryz.prog 111 [aC [74,82,78,48],.slice none n c,.int .i64 seq,.slice none 0 0] (fun _=>True) (vq jb):=by
 have hH:jb=kR++gj (ofM kR) 8++List.replicate 100 0:=rfl
 rw[← BB (gq _ _)] at hH
 have h16:AR=lay (dm (lay (List.replicate 128 0) 0 [74,82,78,48]) 4 0) 16 (gj 0 4):=rfl
 have htk:=tH
 have hpl:=gY
 have hl16:AR.length=128:=by rw[uw];simp[gY]
 generalize jb=HH at *
 generalize kR=PP at *
 generalize AR=D16 at *
 refine af.aF ab Tryz.func111 rfl (by decide) (n:=Tryz.f111.ntmps - 4) rfl rfl fun w0 av=>?_
 conv=>whnf
 repeat (refine aa.of ?_;conv=>whnf)
 refine aj.ek ab (t:=23) rfl rfl rfl rfl rfl rfl 128 rfl rfl (by decide) (by decide) fun b=>?_
 have hl0:(List.replicate 128 (0:UInt8)).length=128:=List.length_replicate
 generalize List.replicate 128 (0:UInt8)=d0 at *
 conv=>whnf
 repeat (refine aa.of ?_;conv=>whnf)
 refine aj.c_ (F':=⟨fun w=>True,[] ++ [(b,Row.c (d0.map ao ++ []))] ++ []⟩) (aq.of_le ⟨by simp,fun w hw=>trivial⟩) ?_
 refine aj.lN ab (t:=23) rfl rfl rfl rfl (r1:=[]) (r2:=[]) (b:=b) (k:=0) (l:=d0) (m:=[74,82,78,48]) (Z:=[]) rfl (by simp) (by simp;omega) ?_
 have hl1:(lay d0 0 [74,82,78,48]).length=128:=by rw[ct (by simp;omega),hl0]
 generalize lay d0 0 [74,82,78,48]=d1 at *
 conv=>whnf
 repeat (refine aa.of ?_;conv=>whnf)
 refine aj.ah (ai.f_ ab (t:=23) rfl rfl rfl rfl 4 rfl (by omega) ?_)
 conv=>whnf
 repeat (refine aa.of ?_;conv=>whnf)
 refine a_.cC ab (t:=5) rfl rfl (r1:=[]) (r2:=[]) (l:=d1) (Z:=[]) 0 rfl (by rw[hn];rfl) (by decide) (by omega) ?_
 have hl2:(dm d1 4 0).length=128:=by rw[dn,hl1]
 generalize dm d1 4 0=d2 at *
 conv=>whnf
 repeat (refine aa.of ?_;conv=>whnf)
 refine aI.loop ab (ι:=Nat) ([10,11]++List.range' 23 12) (fun x=>x=0)
  (fun x=>[(23,.v (.int .i64 (x:Int)))]) (fun _=>[]) (fun x=>⟨fun w=>True,[] ++ [(b,Row.c (d2.map ao ++ []))] ++ []⟩)
  (fun x=>x) 0 rfl ?_ rfl (aq.refl _) fun y hy=>?_
 · conv=>whnf
   repeat (first | exact aw.nil | refine aw.any ?_ | refine aw.cons ?_)
 conv=>whnf
 repeat (refine aa.of ?_;conv=>whnf)
 refine aH.no (by subst hy;simp[au,hn]) ?_
 conv=>whnf
 repeat (refine aa.of ?_;conv=>whnf)
 refine aj.ah (ai.pD ab (t:=23) rfl rfl rfl rfl (h:=⟨some ⟨b,0,none⟩,128⟩) 16 4 rfl rfl (by dsimp only;omega) ?_)
 rw[dO (by decide)]
 conv=>whnf
 repeat (refine aa.of ?_;conv=>whnf)
 have hq:IntKind.u64.wrap seq=((0:Nat):Int):=by rw[hseq];rfl
 rw[hq]
 refine ak.rows (xa b 16 4 (128 - 16) d2 [] 0 (by omega) (by decide)) (fun w hw=>trivial) (fun v F hv=>?_)
 subst hv
 rw[← h16]
 conv=>whnf
 repeat (refine aa.of ?_;conv=>whnf)
 refine aI.c_ (F':=⟨fun w=>True,[] ++ [(b,Row.c (D16.map ao ++ []))] ++ []⟩) (aq.of_le ⟨by simp,fun w hw=>trivial⟩) ?_
 have hcl:=eE PP ⟨some ⟨b,0,none⟩,128⟩ ⟨fun h=>(by cases h),by dsimp only;omega⟩ (by omega) (by omega)
 rw[hpl] at hcl
 have hby : ∀ (R:Nat→Nat→Prop) (bs:List (Nat×Nat)) (cs:List (List Value)) (F:Fx),(b,Row.c (D16.map ao ++ []))∈F.rs→∀ w,St w0 R av w bs cs F→By w ⟨some ⟨b,0,none⟩,128⟩ PP:=fun R bs cs F hm w hst=>by
  have h:=(bp.row hm w hst).take 20
  rw[List.append_nil,← List.map_take,htk] at h
  exact h
 refine aI.draw ab mixed rfl rfl ?_
 conv=>whnf
 refine ai.pD ab (t:=23) rfl rfl rfl rfl (h:=⟨some ⟨b,0,none⟩,128⟩) 20 8 rfl rfl (by dsimp only;omega) ?_
 rw[dO (by decide)]
 conv=>whnf
 refine ai.gA ab (t:=23) rfl rfl rfl (h:=⟨some ⟨b,0,none⟩,128⟩) 20 rfl (by dsimp only;omega) ?_
 conv=>whnf
 refine ak.from hcl (yI _ _) (fun w hst=>hby _ _ _ _ (by simp) w hst) (fun v D hv=>?_)
 obtain⟨b2,c2,Z2,rfl,hc2,rfl⟩:=hv
 refine⟨fun w=>trivial,?_⟩
 have hps:=AV PP ⟨some ⟨b2,0,none⟩,c2⟩ ⟨fun h=>(by cases h),hc2⟩ (by omega)
 generalize ofM PP=s at *
 conv=>whnf
 refine aj.pW ab (t:=23) (xt:=23) rfl rfl rfl rfl rfl hc2 rfl (.fact fun w hw=>By.nil w) ?_
 conv=>whnf
 refine ak.look hps (yI _ _) (fun w hst=>A_ (Z:=Z2) (by simp[Fx.and]) hst) ?_
 conv=>whnf
 refine ak.c_ (F':=⟨fun w=>True,[] ++ [(b,Row.c (D16.map ao ++ []))] ++ []⟩) (aq.of_le ⟨by simp[Fx.and],fun w hw=>trivial⟩) ?_
 refine ak.rows (xa b 20 8 (128 - 20) D16 [] s (by omega) (by decide)) (fun w hw=>trivial) (fun v F hv=>?_)
 subst hv
 rw[← hH]
 have hHl:HH.length=128:=by rw[hH,ct (by rw[gq];omega),hl16]
 conv=>whnf
 exact la (by omega) (by omega)
theorem xi (seq:Int) (hs:seq=0):af Tryz.prog 62 [.int .i64 seq] (fun _=>True) (fun v F=>∃ b cap Z,v = .tuple #[.slice (some ⟨b,0,none⟩) jb.length cap,.int .i64 0]∧jb.length≤cap∧F=⟨fun _=>True,[(b,Row.c (jb.map ao++Z))]⟩):=by
 have hp:=uc seq hs 0 0 rfl
 generalize jb=HH at *
 refine af.aF ab Tryz.func62 rfl (by decide) (n:=Tryz.f62.ntmps - 1) rfl rfl fun w0 av=>?_
 conv=>whnf
 repeat (refine aa.of ?_;conv=>whnf)
 refine aH.no (by simp[au,bP,hs]) ?_
 conv=>whnf
 repeat (refine aa.of ?_;conv=>whnf)
 refine ak.pure hp (fun w hw=>trivial) (fun v D hv=>?_)
 obtain⟨b,c,Z,rfl,hc,rfl⟩:=hv
 conv=>whnf
 repeat (refine aa.of ?_;conv=>whnf)
 exact⟨⟨fun _=>True,[(b,Row.c (HH.map ao++Z))]⟩,aq.of_le ⟨by simp[Fx.and],fun w hw=>trivial⟩,b,c,Z,rfl,hc,rfl⟩
def ue:Code→Code
 | .seq a _=>a
 | _=>.skip
def bH:Code→Code
 | .seq _ b=>b
 | _=>.skip
def g0:Nat→iW:=fun _=>(0,0,fun _=>0)
theorem Ce (r:Nat):aJ (fG 0 0 fun _=>0) r=0:=by
 have h:fG 0 0 (fun _=>0)=List.replicate 16 0:=by decide
 rw[h]
 unfold aJ
 rw[List.getD_eq_getElem?_getD,List.getElem?_replicate]
 split<;>rfl
theorem BP {d bits:List UInt8} (hd:d.length=12288) (hb:bits.length=12) (hz : ∀ m,1792≤m→m<2304→aJ d m=0) (b:Nat→Nat) :
 gl d (fN g0 0 (2,128,b)) bits=cS (cD d bits) 0 2 128 b:=by
 have h1:=aP hd hb
 refine bW (by rw[fP hd _ hb,bf h1 (by decide)]) fun m hm=>?_
 unfold gl
 rw[aX (gO hd _ (Nat.le_refl _)) hb,qH hd _ (Nat.le_refl _),bO h1 (by decide),aX hd hb]
 by_cases c1:1664≤m∧m<1676
 · rw[if_pos c1,if_neg (by omega),if_pos c1]
 rw[if_neg c1,if_neg c1]
 by_cases c2:1792≤m∧m<1792+16*32
 · rw[if_pos c2]
   by_cases c3:(m - 1792)/16=0
   · rw[if_pos (by omega)]
     unfold fN
     rw[if_pos c3,show(m - 1792)%16=m - (1792+16*0) by omega]
   · rw[if_neg (by omega),hz m (by omega) (by omega)]
     unfold fN
     rw[if_neg c3]
     exact Ce _
 · rw[if_neg c2,if_neg (by omega)]
theorem uz:af Tryz.prog 32 [] (fun _=>True) (vq iY):=by
 have hX:iY=cS (cD (lay (lay (List.replicate 12288 0) 0 [82,70,83,49]) 128 jb) (bZ (List.range 19))) 0 2 128 (fun i=>if i=0 then 18 else 0):=rfl
 generalize iY=XX at *
 have hep:=xi 0 rfl
 have hhl:jb.length=128:=by
  have:jb=kR++gj (ofM kR) 8++List.replicate 100 0:=rfl
  rw[this,List.length_append,List.length_append,gq,gY,List.length_replicate]
 generalize jb=HH at *
 obtain⟨c1,hc1⟩ : ∃ c,c=bH (Tryz.f32.body.getD .skip):=⟨_,rfl⟩
 obtain⟨c2,hc2⟩ : ∃ c,c=bH (bH (Tryz.f32.body.getD .skip)):=⟨_,rfl⟩
 obtain⟨c3,hc3⟩ : ∃ c,c=bH (bH (bH (Tryz.f32.body.getD .skip))):=⟨_,rfl⟩
 obtain⟨c4,hc4⟩ : ∃ c,c=bH (bH (bH (bH (Tryz.f32.body.getD .skip)))):=⟨_,rfl⟩
 obtain⟨c5,hc5⟩ : ∃ c,c=bH (bH (bH (bH (bH (Tryz.f32.body.getD .skip))))):=⟨_,rfl⟩
 obtain⟨c6,hc6⟩ : ∃ c,c=bH (bH (bH (bH (bH (bH (Tryz.f32.body.getD .skip)))))):=⟨_,rfl⟩
 obtain⟨c7,hc7⟩ : ∃ c,c=bH (bH (bH (bH (bH (bH (bH (Tryz.f32.body.getD .skip))))))):=⟨_,rfl⟩
 obtain⟨c8,hc8⟩ : ∃ c,c=bH (bH (bH (bH (bH (bH (bH (bH (Tryz.f32.body.getD .skip)))))))):=⟨_,rfl⟩
 obtain⟨c9,hc9⟩ : ∃ c,c=bH (bH (bH (bH (bH (bH (bH (bH (bH (Tryz.f32.body.getD .skip))))))))):=⟨_,rfl⟩
 have hB:Tryz.f32.body=some (.seq (ue (Tryz.f32.body.getD .skip)) c1):=by rw[hc1];rfl
 have hB1:c1 = .seq (ue (bH (Tryz.f32.body.getD .skip))) c2:=by rw[hc1,hc2];rfl
 have hB2:c2 = .seq (ue (bH (bH (Tryz.f32.body.getD .skip)))) c3:=by rw[hc2,hc3];rfl
 have hB3:c3 = .seq (ue (bH (bH (bH (Tryz.f32.body.getD .skip))))) c4:=by rw[hc3,hc4];rfl
 have hB4:c4 = .seq (ue (bH (bH (bH (bH (Tryz.f32.body.getD .skip)))))) c5:=by rw[hc4,hc5];rfl
 have hB5:c5 = .seq (ue (bH (bH (bH (bH (bH (Tryz.f32.body.getD .skip))))))) c6:=by rw[hc5,hc6];rfl
 have hB6:c6 = .seq (ue (bH (bH (bH (bH (bH (bH (Tryz.f32.body.getD .skip)))))))) c7:=by rw[hc6,hc7];rfl
 have hB7:c7 = .seq (ue (bH (bH (bH (bH (bH (bH (bH (Tryz.f32.body.getD .skip))))))))) c8:=by rw[hc7,hc8];rfl
 have hB8:c8 = .seq (ue (bH (bH (bH (bH (bH (bH (bH (bH (Tryz.f32.body.getD .skip)))))))))) c9:=by rw[hc8,hc9];rfl
 have hB9:c9=(bH (bH (bH (bH (bH (bH (bH (bH (bH (Tryz.f32.body.getD .skip)))))))))):=hc9
 clear hc1 hc2 hc3 hc4 hc5 hc6 hc7 hc8 hc9
 refine af.aF ab Tryz.func32 hB (by decide) (n:=Tryz.f32.ntmps) rfl rfl fun w0 av=>?_
 refine nG ?_
 conv=>whnf
 repeat (refine aa.of ?_;conv=>whnf)
 rw[hB1]
 conv=>whnf
 repeat (refine aa.of ?_;conv=>whnf)
 obtain⟨N,hN⟩ : ∃ N:Nat,N=12288:=⟨_,rfl⟩
 refine aj.ek ab (t:=23) rfl rfl rfl rfl rfl rfl N (by rw[hN];rfl) (by rw[hN];rfl) (by omega) (by omega) fun bd=>?_
 obtain⟨d0,mf⟩ : ∃ d0,d0=List.replicate N (0:UInt8):=⟨_,rfl⟩
 have hl0:d0.length=N:=by rw[mf];exact List.length_replicate
 have hz0 : ∀ m,aJ d0 m=0:=fun m=>by
  rw[mf]
  unfold aJ
  rw[List.getD_eq_getElem?_getD,List.getElem?_replicate]
  split<;>rfl
 rw[← hN,← mf] at hX
 rw[← mf]
 clear mf
 conv=>whnf
 repeat (refine aa.of ?_;conv=>whnf)
 refine aj.ah (ai.r8 ab (t:=105) rfl rfl ?_)
 conv=>whnf
 repeat (refine aa.of ?_;conv=>whnf)
 refine aj.ye fun bv=>?_
 conv=>whnf
 repeat (refine aa.of ?_;conv=>whnf)
 rw[hB2]
 conv=>whnf
 repeat (refine aa.of ?_;conv=>whnf)
 obtain⟨X,hXe⟩ : ∃ X:Value,X = .slice (some ⟨bd,0,none⟩) N N:=⟨_,rfl⟩
 have hvw : ∀ Y:Value,X::(List.replicate 448 (aE 0) ++ [Y])=dX X g0 Y:=fun Y=>rfl
 obtain⟨V0,hV0⟩ : ∃ V0,V0=dX X g0 (.slice none 0 0):=⟨_,rfl⟩
 have hV00:V0[0]? = some (.slice (some ⟨bd,0,none⟩) N N):=by rw[hV0,← hXe];rfl
 refine aj.c_ (F':=⟨fun _=>True,[(bd,Row.c (d0.map ao ++ [])),(bv,Row.c V0)]⟩) (aq.of_le ⟨by rw[hV0,← hvw,hXe];exact List.Sublist.refl _,fun w _=>trivial⟩) ?_
 clear hvw
 have hv00 : ∀ g Y,(dX X g Y)[0]? = some (.slice (some ⟨bd,0,none⟩) N N):=fun g Y=>by rw[← hXe];rfl
 have hok0:(⟨some ⟨bd,0,none⟩,N⟩:Hd).Ok N:=⟨fun h=>(by cases h),Nat.le_refl _⟩
 have hvs:=fun g Y i=>mF X g Y (n:=0) (by decide) i
 have hvl:=fun g Y=>fh X g Y
 have hvb:=fun Y Y'=>p9 X (fN g0 0 (2,128,fun i=>if i=0 then 18 else 0)) Y Y'
 refine aj.ah (ai.bS ab (t:=23) rfl rfl (ad:=⟨bv,0,none⟩) (k:=0) (L:=V0) (v:=.slice (some ⟨bd,0,none⟩) N N) (bp.row (by simp)) (fun _=>rfl) hV00 ?_)
 conv=>whnf
 repeat (refine aa.of ?_;conv=>whnf)
 refine aj.c_ (F':=⟨fun _=>True,[] ++ [(bd,Row.c (d0.map ao ++ []))] ++ [(bv,Row.c V0)]⟩) (aq.of_le ⟨by simp,fun w _=>trivial⟩) ?_
 refine aj.lN ab (t:=23) rfl rfl rfl rfl (r1:=[]) (r2:=[(bv,Row.c V0)]) (b:=bd) (k:=0) (l:=d0) (m:=[82,70,83,49]) (Z:=[]) rfl (by simp;try omega) (by simp;try omega) ?_
 have hb1:=fun m=>cu (l:=d0) (m:=[82,70,83,49]) (k:=0) (by simp;omega) m
 have hl1:(lay d0 0 [82,70,83,49]).length=N:=by rw[ct (by simp;omega),hl0]
 generalize lay d0 0 [82,70,83,49]=d1 at *
 conv=>whnf
 repeat (refine aa.of ?_;conv=>whnf)
 rw[hB3]
 conv=>whnf
 repeat (refine aa.of ?_;conv=>whnf)
 refine ak.pure hep (fun w hw=>trivial) (fun v D hv=>?_)
 obtain⟨bh,ch,Zh,rfl,hch,rfl⟩:=hv
 conv=>whnf
 repeat (refine aa.of ?_;conv=>whnf)
 rw[hB4]
 conv=>whnf
 repeat (refine aa.of ?_;conv=>whnf)
 refine ak.look (du bv V0 ⟨some ⟨bd,0,none⟩,N⟩ N hV00 hok0 hN 1 (by decide)) (Loc.row _ _) (fun w hst=>bp.row (by simp[Fx.and]) w hst) ?_
 rw[dO (by omega)]
 conv=>whnf
 repeat (refine aa.of ?_;conv=>whnf)
 refine aj.c_ (F':=⟨fun _=>True,[] ++ [(bd,Row.c (d1.map ao ++ []))] ++ [(bv,Row.c V0),(bh,Row.c (HH.map ao++Zh))]⟩) (aq.of_le ⟨by simp[Fx.and],fun w _=>trivial⟩) ?_
 refine aj.qe ab (t:=23) rfl rfl rfl rfl (r1:=[]) (r2:=[(bv,Row.c V0),(bh,Row.c (HH.map ao++Zh))]) (b:=bd) (k:=128) (l:=d1) (m:=HH) (Z:=[]) rfl (bp.bytes (Z:=Zh) (by simp)) rfl (by omega) (by omega) ?_
 have hb2:=fun m=>cu (l:=d1) (m:=HH) (k:=128) (by omega) m
 have hl2:(lay d1 128 HH).length=N:=by rw[ct (by omega),hl1]
 generalize lay d1 128 HH=d2 at *
 conv=>whnf
 repeat (refine aa.of ?_;conv=>whnf)
 rw[hB5]
 conv=>whnf
 repeat (refine aa.of ?_;conv=>whnf)
 refine aj.ah (ai.dk ab (t:=103) rfl rfl rfl 0 rfl (by decide) rfl ?_)
 conv=>whnf
 repeat (refine aa.of ?_;conv=>whnf)
 have hi0 : ∀ Y,laid (dX X g0 Y) 1 (iG (2,128,fun i=>if i=0 then 18 else 0))=dX X (fN g0 0 (2,128,fun i=>if i=0 then 18 else 0)) Y:=fun Y=>hvs g0 Y _
 have hg1 : ∀ n,(fN g0 0 (2,128,fun i=>if i=0 then 18 else 0) n).1≤1000000∧(fN g0 0 (2,128,fun i=>if i=0 then 18 else 0) n).2.1≤1000000∧∀ i,(fN g0 0 (2,128,fun i=>if i=0 then 18 else 0) n).2.2 i≤1000000:=fun n=>by
  unfold fN
  split
  · exact⟨by decide,by decide,fun i=>by dsimp only;split<;>omega⟩
  · exact⟨Nat.zero_le _,Nat.zero_le _,fun i=>Nat.zero_le _⟩
 have hl2':d2.length=12288:=hl2.trans hN
 have hz2 : ∀ m,1792≤m→m<2304→aJ d2 m=0:=fun m h1 h2=>by
  rw[hb2,if_neg (by omega),hb1,if_neg (by simp;omega),hz0]
 have hdf:=BP hl2' (bits:=bZ (List.range 19)) (bu _) hz2 (fun i=>if i=0 then 18 else 0)
 rw[← hX] at hdf
 have hdl:=fP hl2' (fN g0 0 (2,128,fun i=>if i=0 then 18 else 0)) (bu (List.range 19))
 rw[hdf] at hdl
 have hdn:=fun k hk=>fQ bd bv N d2 [] hl2' (by omega) (fN g0 0 (2,128,fun i=>if i=0 then 18 else 0)) hg1 k hk (bZ (List.range 19)) (bu _)
 rw[hdf,hl2,← hXe] at hdn
 have hV0l:=hvl g0 (.slice none 0 0)
 have hi0:=hi0 (.slice none 0 0)
 rw[← hV0] at hV0l hi0
 have hg1l:=fun Y=>hvl (fN g0 0 (2,128,fun i=>if i=0 then 18 else 0)) Y
 have hg1t:=fun Y=>nk X (fN g0 0 (2,128,fun i=>if i=0 then 18 else 0)) Y
 refine a_.c_ (F':=⟨fun _=>True,[(bd,Row.c (d2.map ao ++ []))] ++ [(bv,Row.c V0)] ++ []⟩) (aq.of_le ⟨by simp,fun w _=>trivial⟩) ?_
 refine a_.cE ab (t:=82) rfl (r1:=[(bd,Row.c (d2.map ao ++ []))]) (r2:=[]) (b:=bv) (k:=1) (C:=V0) (v:=.agg ⟨bg 2 128 fun i=>if i=0 then 18 else 0⟩) (by show(Addr.add ⟨bv,0,none⟩ 1).add (0*_)=_;simp only[Addr.aV,Nat.zero_mul]) rfl (by simp[Value.cells,bg,aE,aO]) (by rw[hV0l];show _+14≤_;omega) ?_
 rw[show laid V0 1 (Value.agg ⟨bg 2 128 fun i=>if i=0 then 18 else 0⟩).cells.toList=dX X (fN g0 0 (2,128,fun i=>if i=0 then 18 else 0)) (.slice none 0 0) from hi0]
 clear hvs hi0 hg1 hdf hX hv00
 generalize fN g0 0 (2,128,fun i=>if i=0 then 18 else 0)=g1 at *
 obtain⟨V1,hV1⟩ : ∃ V1,V1=dX X g1 (.slice none 0 0):=⟨_,rfl⟩
 have hV1l:V1.length=450:=by rw[hV1];exact hg1l _
 rw[← hV1]
 conv=>whnf
 repeat (refine aa.of ?_;conv=>whnf)
 rw[hB6]
 conv=>whnf
 repeat (refine aa.of ?_;conv=>whnf)
 obtain⟨Nb,hNb⟩ : ∃ Nb:Nat,Nb=12:=⟨_,rfl⟩
 refine aj.ek ab (t:=23) rfl rfl rfl rfl rfl rfl Nb (by rw[hNb];rfl) (by rw[hNb];rfl) (by omega) (by omega) fun bb=>?_
 conv=>whnf
 repeat (refine aa.of ?_;conv=>whnf)
 refine a_.c_ (F':=⟨fun _=>True,[(bd,Row.c (d2.map ao ++ []))] ++ [(bv,Row.c V1)] ++ [(bb,Row.c ((bZ (List.range 0)).map ao ++ []))]⟩) (aq.of_le ⟨by rw[hNb];exact List.Sublist.refl _,fun w _=>trivial⟩) ?_
 refine a_.cE ab (t:=23) rfl (r1:=[(bd,Row.c (d2.map ao ++ []))]) (r2:=[(bb,Row.c ((bZ (List.range 0)).map ao ++ []))]) (b:=bv) (k:=449) (C:=V1) (v:=.slice (some ⟨bb,0,none⟩) Nb Nb) (by rw[Addr.aV]) rfl (by simp[Value.cells,aO]) (by rw[hV1l];decide) ?_
 rw[show laid V1 449 (Value.slice (some ⟨bb,0,none⟩) Nb Nb).cells.toList=dX X g1 (.slice (some ⟨bb,0,none⟩) Nb Nb) by rw[hV1];exact hvb _ _]
 conv=>whnf
 repeat (refine aa.of ?_;conv=>whnf)
 rw[hB7]
 conv=>whnf
 repeat (refine aa.of ?_;conv=>whnf)
 rw[hB8]
 conv=>whnf
 repeat (refine aa.of ?_;conv=>whnf)
 refine aI.loop ab (ι:=Nat×Nat×Nat×List Value) ([4]++List.range' 31 16) (fun x=>x.1≤19∧12≤x.2.2.1)
  (fun x=>[(31,.v (.int .i64 (x.1:Int)))]) (fun _=>[]) (fun x=>⟨fun _=>True,[(bd,Row.c (d2.map ao ++ [])),(bv,Row.c (dX X g1 (.slice (some ⟨x.2.1,0,none⟩) Nb x.2.2.1))),(x.2.1,Row.c ((bZ (List.range x.1)).map ao++x.2.2.2))]⟩)
  (fun x=>19 - x.1) (0,bb,Nb,[]) ⟨Nat.zero_le _,by dsimp only;omega⟩ ?_ rfl (aq.of_le ⟨by simp,fun w hw=>hw⟩) fun x hx=>?_
 · conv=>whnf
   repeat (first | exact aw.nil | refine aw.any ?_ | refine aw.cons ?_)
 obtain⟨i,b,cap,Z⟩:=x
 obtain⟨hi,hcap⟩:=hx
 dsimp only at hi hcap ⊢
 conv=>whnf
 repeat (refine aa.of ?_;conv=>whnf)
 refine aH.split (fun hlt=>?_) (fun hlt=>?_)
 · have hlt':i<19:=by
    simp only[au,decide_eq_true_eq] at hlt
    omega
   have hsp:=qn (bZ (List.range i)) ⟨some ⟨b,0,none⟩,cap⟩ (by rw[bu];exact⟨fun h=>(by cases h),hcap⟩) i true (by rw[bu];omega) (by rw[bu];omega)
   rw[← r6,← List.range_succ,bu,← hNb] at hsp
   conv=>whnf
   repeat (refine aa.of ?_;conv=>whnf)
   refine aj.ah (ai.bS ab (t:=23) rfl rfl (ad:=⟨bv,0,none⟩) (k:=449) (L:=dX X g1 (.slice (some ⟨b,0,none⟩) Nb cap)) (v:=.slice (some ⟨b,0,none⟩) Nb cap) (bp.row (by simp)) (fun _=>rfl) (hg1t _) ?_)
   conv=>whnf
   repeat (refine aa.of ?_;conv=>whnf)
   refine ak.from hsp (yI _ _) (fun w hst=>A_ (Z:=Z) (by simp) hst) (fun v D hv=>?_)
   obtain⟨b2,c2',Z2,hv,hc2,rfl⟩:=hv
   rw[bu] at hc2
   rw[bu,← hNb] at hv
   subst hv
   refine⟨fun w=>trivial,?_⟩
   conv=>whnf
   repeat (refine aa.of ?_;conv=>whnf)
   refine a_.c_ (F':=⟨fun _=>True,[(bd,Row.c (d2.map ao ++ []))] ++ [(bv,Row.c (dX X g1 (.slice (some ⟨b,0,none⟩) Nb cap)))] ++ [(b2,Row.c ((bZ (List.range (i+1))).map ao++Z2))]⟩) (aq.of_le ⟨by simp[Fx.and],fun w _=>trivial⟩) ?_
   refine a_.cE ab (t:=23) rfl (r1:=[(bd,Row.c (d2.map ao ++ []))]) (r2:=[(b2,Row.c ((bZ (List.range (i+1))).map ao++Z2))]) (b:=bv) (k:=449) (C:=dX X g1 (.slice (some ⟨b,0,none⟩) Nb cap)) (v:=.slice (some ⟨b2,0,none⟩) Nb c2') (by rw[Addr.aV]) rfl (by simp[Value.cells,aO]) (by rw[hg1l];decide) ?_
   rw[show laid (dX X g1 (.slice (some ⟨b,0,none⟩) Nb cap)) 449 (Value.slice (some ⟨b2,0,none⟩) Nb c2').cells.toList=dX X g1 (.slice (some ⟨b2,0,none⟩) Nb c2') from hvb _ _]
   conv=>whnf
   repeat (refine aa.of ?_;conv=>whnf)
   refine⟨(i+1,b2,c2',Z2),⟨⟨hlt',hc2⟩,by dsimp only;omega⟩,?_,?_,?_⟩
   · conv=>whnf
     refine⟨?_,rfl⟩
     repeat (first | exact aw.nil | refine aw.any ?_ | refine aw.cons ?_ | refine aw.eq (by rw[wrap_i64 (by omega)];rfl) ?_)
   · conv=>whnf
     exact trivial
   · exact aq.of_le ⟨by simp,fun w hw=>hw⟩
 have hie:i=19:=by
  simp only[au,decide_eq_false_iff_not] at hlt
  omega
 subst hie
 conv=>whnf
 repeat (refine aa.of ?_;conv=>whnf)
 have hdn2:=hdn ⟨some ⟨b,0,none⟩,cap⟩ ⟨fun h=>(by cases h),hcap⟩
 rw[show(⟨some ⟨b,0,none⟩,cap⟩:Hd).v 12 = .slice (some ⟨b,0,none⟩) Nb cap by rw[hNb]] at hdn2
 have hwl:=bu (List.range 19)
 generalize bZ (List.range 19)=wb at *
 refine ak.c_ (F':=⟨fun w=>By w ⟨some ⟨b,0,none⟩,cap⟩ wb,[] ++ [(bd,Row.c (d2.map ao ++ [])),(bv,Row.c (dX X g1 (.slice (some ⟨b,0,none⟩) Nb cap)))] ++ []⟩)
  ((
   show aq ⟨fun _=>True,[(bd,Row.c (d2.map ao ++ [])),(bv,Row.c (dX X g1 (.slice (some ⟨b,0,none⟩) Nb cap)))] ++ [(b,Row.c (wb.map ao++Z))]⟩ ⟨fun w=>True∧aB w (some ⟨b,0,none⟩) (wb.map ao++Z),[(bd,Row.c (d2.map ao ++ [])),(bv,Row.c (dX X g1 (.slice (some ⟨b,0,none⟩) Nb cap)))]⟩ from aq.oA).trans (aq.of_le ⟨by simp,fun w h=>by
   have:=h.2.take wb.length
   have e:wb.length=(wb.map ao).length:=by simp
   rw[e,List.take_left] at this
   exact this⟩)) ?_
 rw[hXe] at hdn2 ⊢
 refine ak.rows (r1:=[]) (r2:=[]) hdn2 (fun w hw=>hw) (fun v F hv=>?_)
 obtain⟨rfl,rfl⟩:=hv
 conv=>whnf
 repeat (refine aa.of ?_;conv=>whnf)
 rw[hB9]
 conv=>whnf
 repeat (refine aa.of ?_;conv=>whnf)
 exact la (r1:=[]) (r2:=[]) (by omega) (by omega)
def bw (b:List UInt8):List Nat:=(List.range' 18 78).filter fun i=>!da b i
def dp (b:List UInt8) (l:List Nat):List UInt8:=l.foldl (fun b i=>cq b i true) b
theorem jJ : ∀ (l:List Nat) (b:List UInt8),(dp b l).length=b.length
 | [],b=>rfl
 | i::l,b=>by
  show(dp (cq b i true) l).length=_
  rw[jJ l,bz]
theorem rf (b:List UInt8):cI b=(bw b).head?:=(List.head?_filter ..).symm
theorem vr (b:List UInt8):(bw b).Nodup:=(by simpa using List.nodup_range' (s:=18) (n:=78) (step:=1):(List.range' 18 78).Nodup).sublist List.filter_sublist
theorem gr {b:List UInt8} {x:Nat} (h:x∈bw b):18≤x∧x<96∧da b x=false:=by
 obtain⟨h1,h2⟩:=List.mem_filter.1 h
 have:=List.mem_range'_1.1 h1
 exact⟨this.1,by omega,by simpa using h2⟩
theorem Ag {b:List UInt8} (hb:b.length=12) {x:Nat} {t:List Nat} (h:bw b=x::t):bw (cq b x true)=t:=by
 have hx:=gr (b:=b) (x:=x) (by rw[h];exact List.mem_cons_self ..)
 have hnd:=vr b
 have e:bw (cq b x true)=(bw b).filter fun j=>decide (j≠x):=by
  unfold bw
  rw[List.filter_filter]
  refine List.filter_congr fun j hj=>?_
  rw[kZ true (by omega) j]
  by_cases hjx:j=x
  · subst hjx
    simp
  · simp[hjx]
 rw[e,h,List.filter_cons_of_neg (by simp)]
 rw[h,List.nodup_cons] at hnd
 exact List.filter_eq_self.2 fun j hj=>by
  have:j≠x:=fun e=>hnd.1 (e ▸ hj)
  simpa using this
theorem ot : ∀ (c:Nat) {b:List UInt8},b.length=12→c≤(bw b).length→bw (dp b ((bw b).take c))=(bw b).drop c
 | 0,b,_,_=>rfl
 | c+1,b,hb,hc=>by
  cases hl:bw b with
  | nil=>rw[hl] at hc;simp at hc
  | cons x t=>
   rw[List.take_succ_cons,List.drop_succ_cons]
   have hp:=Ag hb hl
   have:=ot c (b:=cq b x true) (by rw[bz];exact hb) (by rw[hp];rw[hl] at hc;simpa using hc)
   rw[hp] at this
   exact this
def fresh (b:Nat→Nat) (i m:Nat):List Nat:=(List.range' i m).filter fun j=>decide (b j=0)
theorem j4 (b:Nat→Nat) (i m:Nat):fresh b i (m+1)=fresh b i m++(if b (i+m)=0 then [i+m] else []):=by
 unfold fresh
 rw[List.range'_1_concat,List.filter_append]
 congr 1
 by_cases h:b (i+m)=0
 · rw[if_pos h,List.filter_cons_of_pos (by simpa using h)]
   rfl
 · rw[if_neg h,List.filter_cons_of_neg (by simpa using h)]
   rfl
theorem jo {b:Nat→Nat} {i m j:Nat}:j∈fresh b i m↔i≤j∧j<i+m∧b j=0:=by
 unfold fresh
 rw[List.mem_filter,List.mem_range'_1]
 simp[and_assoc]
def kJ (b:Nat→Nat) (ps:List (Nat×Nat)):Nat→Nat:=ps.foldl (fun b p j=>if j=p.1 then p.2 else b j) b
theorem qj (b:Nat→Nat) (ps:List (Nat×Nat)) (p:Nat×Nat):kJ b (ps ++ [p])=fun j=>if j=p.1 then p.2 else kJ b ps j:=by
 unfold kJ
 rw[List.foldl_append]
 rfl
theorem jX : ∀ {ps:List (Nat×Nat)} {b:Nat→Nat} {i:Nat},(∀ p∈ps,p.1≠i)→kJ b ps i=b i
 | [],b,i,_=>rfl
 | p::ps,b,i,h=>by
  show kJ (fun j=>if j=p.1 then p.2 else b j) ps i=b i
  rw[jX fun q hq=>h q (List.mem_cons_of_mem _ hq)]
  exact if_neg fun e=>h p (List.mem_cons_self ..) e.symm
theorem vG {fr L:List Nat} {i:Nat} (h:fr.length<L.length):(fr ++ [i]).zip L=fr.zip L ++ [(i,L[fr.length])]:=by
 induction fr generalizing L with
 | nil=>
  cases L with
  | nil=>simp at h
  | cons x t=>simp
 | cons a fr ih=>
  cases L with
  | nil=>simp at h
  | cons x t=>
   rw[List.cons_append,List.zip_cons_cons,List.zip_cons_cons,ih (L:=t) (by simpa using h)]
   simp
theorem Dy {d:List UInt8} (hd:d.length=12288) (b:Nat→Nat) : ∀ (i:Nat),let fr:=fresh b 0 i;let L:=bw (bA d)
 if fr.length≤L.length then ∃ o,wt d b i=some (o,kJ b (fr.zip L))∧o.length=12288∧bA o=dp (bA d) (L.take fr.length)∧
  ∀ m,¬ (1664≤m∧m<1676)→aJ o m=if m/128∈L.take fr.length then 0 else aJ d m
 else wt d b i=none:=by
 intro i
 have hbl:=aU hd
 induction i with
 | zero=>
  refine(if_pos (Nat.zero_le _)).mpr ?_
  exact⟨d,rfl,hd,rfl,fun m _=>by simp[fresh]⟩
 | succ i ih=>
  intro fr L
  dsimp only at ih
  have hfs:fr=fresh b 0 i++(if b i=0 then [i] else []):=by
   have:=j4 b 0 i
   rw[Nat.zero_add] at this
   exact this
  clear_value fr
  have hwt:wt d b (i+1)=match wt d b i with
   | none=>none
   | some (o,b')=>if b' i=0 then (match cI (bA o) with
    | none=>none
    | some x=>some (cG o x,fun j=>if j=i then x else b' j)) else some (o,b'):=rfl
  by_cases hc:(fresh b 0 i).length≤L.length
  rotate_left
  · rw[if_neg hc] at ih
    have : ¬ fr.length≤L.length:=by
     rw[hfs,List.length_append]
     omega
    rw[if_neg this,hwt,ih]
  rw[if_pos hc] at ih
  obtain⟨o,h1,h2,h3,h4⟩:=ih
  rw[h1] at hwt
  dsimp only at hwt
  have hasg:kJ b ((fresh b 0 i).zip L) i=b i:=jX fun p hp=>by
   have:=(jo.1 (List.of_mem_zip hp).1).2.1
   omega
  rw[hasg] at hwt
  by_cases hb:b i=0
  rotate_left
  · rw[if_neg hb,List.append_nil] at hfs
    rw[if_neg hb] at hwt
    rw[hfs,if_pos hc,hwt]
    exact⟨o,rfl,h2,h3,h4⟩
  rw[if_pos hb] at hfs hwt
  have hfl:fr.length=(fresh b 0 i).length+1:=by rw[hfs];simp
  have hfb:cI (bA o)=L[(fresh b 0 i).length]?:=by
   rw[rf,h3,ot _ hbl hc,List.head?_drop]
  by_cases hc2:(fresh b 0 i).length<L.length
  rotate_left
  · rw[hfb,List.getElem?_eq_none (by omega)] at hwt
    rw[if_neg (by omega),hwt]
  rw[hfb,List.getElem?_eq_getElem hc2] at hwt
  dsimp only at hwt
  have hxm:L[(fresh b 0 i).length]∈L:=List.getElem_mem hc2
  have hx:=gr hxm
  have htk:L.take fr.length=L.take (fresh b 0 i).length ++ [L[(fresh b 0 i).length]]:=by
   rw[hfl,List.take_succ_eq_append_getElem hc2]
  rw[if_pos (by omega),hwt,hfs,vG hc2,qj,← hfs,htk]
  generalize L[(fresh b 0 i).length]=x at *
  have hso:(cq (bA o) x true).length=12:=by rw[bz,aU h2]
  have hz:(List.replicate 128 (0:UInt8)).length=128:=List.length_replicate
  have hzb : ∀ j,aJ (List.replicate 128 (0:UInt8)) j=0:=fun j=>by
   unfold aJ
   rw[List.getD_eq_getElem?_getD,List.getElem?_replicate]
   split<;>rfl
  have hby : ∀ m,aJ (cG o x) m=if m/128=x then 0 else if 1664≤m∧m<1676 then aJ (cq (bA o) x true) (m - 1664) else aJ o m:=fun m=>by
   unfold cG
   rw[cu (by rw[aP h2 hso,hz];omega),hz,aX h2 hso]
   by_cases hm:m/128=x
   · rw[if_pos (by omega),if_pos hm,hzb]
   · rw[if_neg (by omega),if_neg hm]
  refine⟨cG o x,rfl,cY h2 hx.2.1,?_,fun m hm=>?_⟩
  · rw[dp,List.foldl_append]
    show bA (cG o x)=cq (dp (bA d) (L.take (fresh b 0 i).length)) x true
    rw[← h3]
    refine bW (by rw[aU (cY h2 hx.2.1),hso]) fun j hj=>?_
    rw[aU (cY h2 hx.2.1)] at hj
    unfold bA
    rw[a8 (by rw[cY h2 hx.2.1];omega) hj,hby,if_neg (by omega),if_pos (by omega)]
    congr 1
    omega
  · rw[hby,h4 m hm]
    by_cases hmx:m/128=x
    · rw[if_pos hmx,if_pos (by rw[hmx];simp)]
    · rw[if_neg hmx,if_neg hm]
      by_cases hmt:m/128∈L.take (fresh b 0 i).length
      · rw[if_pos hmt,if_pos (List.mem_append_left _ hmt)]
      · rw[if_neg hmt,if_neg fun h=>by
         rcases List.mem_append.1 h with h5 | h5
         · exact hmt h5
         · exact hmx (List.mem_singleton.1 h5)]
theorem Aq (j:Nat):aJ (List.replicate 128 (0:UInt8)) j=0:=by
 unfold aJ
 rw[List.getD_eq_getElem?_getD,List.getElem?_replicate]
 split<;>rfl
def vk (d:List UInt8) (l:List Nat):List UInt8:=l.foldl (fun d x=>lay d (128*x) (List.replicate 128 0)) d
theorem pX : ∀ {l:List Nat} {d:List UInt8},d.length=12288→(∀ x∈l,x<96)→(vk d l).length=12288
 | [],d,hd,_=>hd
 | x::l,d,hd,hl=>pX (l:=l) (d:=lay d (128*x) (List.replicate 128 0)) (by
  have:=hl x (List.mem_cons_self ..)
  rw[ct (by rw[List.length_replicate];omega),hd]) fun y hy=>hl y (List.mem_cons_of_mem _ hy)
theorem uD : ∀ {l:List Nat} {d:List UInt8},d.length=12288→(∀ x∈l,x<96)→∀ m,aJ (vk d l) m=if m/128∈l then 0 else aJ d m
 | [],d,hd,_,m=>by simp[vk]
 | x::l,d,hd,hl,m=>by
  have hx:=hl x (List.mem_cons_self ..)
  have hl2:(lay d (128*x) (List.replicate 128 0)).length=12288:=by rw[ct (by rw[List.length_replicate];omega),hd]
  show aJ (vk (lay d (128*x) (List.replicate 128 0)) l) m=_
  rw[uD hl2 fun y hy=>hl y (List.mem_cons_of_mem _ hy),cu (by rw[List.length_replicate];omega),List.length_replicate,Aq]
  by_cases h1:m/128∈l
  · rw[if_pos h1,if_pos (List.mem_cons_of_mem _ h1)]
  · rw[if_neg h1]
    by_cases h2:m/128=x
    · rw[if_pos (by omega),if_pos (by rw[h2];exact List.mem_cons_self ..)]
    · rw[if_neg (by omega),if_neg (by rw[List.mem_cons];exact fun h=>h.elim h2 h1)]
def mK (o:List UInt8) (b:Nat→Nat) (off:Nat) (data:List UInt8):Nat→List UInt8
 | 0=>o
 | k+1=>dm (mK o b off data k) (128*b ((off+k)/128)+(off+k)%128) (aJ data k)
theorem gh (o:List UInt8) (b:Nat→Nat) (off:Nat) (data:List UInt8) : ∀ k,(mK o b off data k).length=o.length
 | 0=>rfl
 | k+1=>by
  unfold mK
  rw[dn,gh o b off data k]
theorem wv (o:List UInt8) (b:Nat→Nat) (data:List UInt8) : ∀ k,mK o b 0 data k=wd o b data k
 | 0=>rfl
 | k+1=>by
  unfold mK wd
  rw[wv o b data k,Nat.zero_add]
theorem gT {o o':List UInt8} {b:Nat→Nat} {off:Nat} {data:List UInt8} (hl:o.length=12288) (hl':o'.length=12288) (hb : ∀ q,q<data.length→18≤b ((off+q)/128)∧b ((off+q)/128)<96)
 (h : ∀ m,¬ (1664≤m∧m<1676)→aJ o m=aJ o' m) : ∀ k,k≤data.length→
 (∀ m,¬ (1664≤m∧m<1676)→aJ (mK o b off data k) m=aJ (mK o' b off data k) m)∧∀ m,m<2304→aJ (mK o b off data k) m=aJ o m
 | 0,_=>⟨h,fun m _=>rfl⟩
 | k+1,hk=>by
  obtain⟨h1,h2⟩:=gT hl hl' hb h k (by omega)
  obtain⟨g1,g2⟩:=hb k (by omega)
  unfold mK
  have w1:=gh o b off data k
  have w2:=gh o' b off data k
  have hby:=bJ data k
  refine⟨fun m hm=>?_,fun m hm=>?_⟩
  · rw[dy (by omega) hby,dy (by omega) hby,h1 m hm]
  · rw[dy (by omega) hby,if_neg (by omega),h2 m hm]
theorem pG : ∀ {ps:List (Nat×Nat)} {b:Nat→Nat} {j:Nat},(∃ p∈ps,p.1=j)→∃ p∈ps,kJ b ps j=p.2
 | [],b,j,⟨p,hp,_⟩=>by simp at hp
 | p::ps,b,j,⟨q,hq,hqj⟩=>by
  show ∃ r∈p::ps,kJ (fun j=>if j=p.1 then p.2 else b j) ps j=r.2
  by_cases h : ∃ r∈ps,r.1=j
  · obtain⟨r,hr,e⟩:=pG (b:=fun j=>if j=p.1 then p.2 else b j) h
    exact⟨r,List.mem_cons_of_mem _ hr,e⟩
  · refine⟨p,List.mem_cons_self ..,?_⟩
    rw[jX fun r hr e=>h ⟨r,hr,e⟩]
    rcases List.mem_cons.1 hq with h5 | h5
    · subst h5
      exact if_pos hqj.symm
    · exact absurd ⟨q,h5,hqj⟩ h
theorem xQ {b:Nat→Nat} {i m j:Nat} {L:List Nat} (hL:(fresh b i m).length≤L.length) (hj:i≤j) (hj2:j<i+m):(b j≠0∧kJ b ((fresh b i m).zip L) j=b j)∨(b j=0∧kJ b ((fresh b i m).zip L) j∈L):=by
 by_cases hb:b j=0
 · refine .inr ⟨hb,?_⟩
   have hm:j∈fresh b i m:=jo.2 ⟨hj,hj2,hb⟩
   obtain⟨k,hk,hkj⟩:=List.getElem_of_mem hm
   have:(j,L[k]'(by omega))∈(fresh b i m).zip L:=by
    rw[List.mem_iff_getElem]
    exact⟨k,by rw[List.length_zip];omega,by rw[List.getElem_zip,hkj]⟩
   obtain⟨p,hp,e⟩:=pG (b:=b) ⟨_,this,rfl⟩
   rw[e]
   exact(List.of_mem_zip hp).2
 · refine .inl ⟨hb,jX fun p hp=>?_⟩
   have:=(jo.1 (List.of_mem_zip hp).1).2.2
   intro e
   rw[e] at this
   exact hb this
noncomputable def cj (d:List UInt8) (n off:Nat) (data:List UInt8):List UInt8×Nat:=
 if a7 d n≠0 then ([],a7 d n) else if data.length=0 then (d,0) else if (if rk d n=2 then 128 else 1536)<off+data.length then ([],6)
 else if (bw (bA d)).length<(fresh (rb d n) (off/128) ((off+data.length+127)/128 - off/128)).length then ([],13)
 else (cD (cS (mK (vk d ((bw (bA d)).take (fresh (rb d n) (off/128) ((off+data.length+127)/128 - off/128)).length)) (kJ (rb d n) ((fresh (rb d n) (off/128) ((off+data.length+127)/128 - off/128)).zip (bw (bA d)))) off data data.length)
  n (rk d n) (max (rs d n) (off+data.length)) (kJ (rb d n) ((fresh (rb d n) (off/128) ((off+data.length+127)/128 - off/128)).zip (bw (bA d)))))
  (dp (bA d) ((bw (bA d)).take (fresh (rb d n) (off/128) ((off+data.length+127)/128 - off/128)).length)),0)
theorem v_ (d:List UInt8) (n:Nat) (data:List UInt8):cj d n 0 data=bQ d n data:=by
 unfold cj bQ
 by_cases hg:a7 d n≠0
 · rw[if_pos hg,if_pos hg]
 rw[if_neg hg,if_neg hg]
 obtain⟨hd,hok,n',hn',hn,hrk⟩:=cd (show a7 d n=0 by omega)
 have hn':n=n':=by omega
 subst hn'
 by_cases h0:data.length=0
 · rw[if_pos h0,if_pos h0]
 rw[if_neg h0,if_neg h0,Nat.zero_add]
 by_cases hlim:(if rk d n=2 then 128 else 1536)<data.length
 · rw[if_pos hlim,if_pos hlim]
 rw[if_neg hlim,if_neg hlim]
 have hlen:data.length≤1536:=by
  revert hlim
  split<;>omega
 rw[Nat.zero_div,Nat.sub_zero]
 have hw:=Dy hd (rb d n) ((data.length+127)/128)
 dsimp only at hw
 have hfl:=fun x=>gr (b:=bA d) (x:=x)
 have hok2 : ∀ L,(fresh (rb d n) 0 ((data.length+127)/128)).length≤L.length→(∀ x∈L,18≤x∧x<96)→∀ q,q<data.length→18≤kJ (rb d n) ((fresh (rb d n) 0 ((data.length+127)/128)).zip L) ((0+q)/128)∧kJ (rb d n) ((fresh (rb d n) 0 ((data.length+127)/128)).zip L) ((0+q)/128)<96:=by
  intro L hL hLx q hq
  rcases xQ (b:=rb d n) (i:=0) (m:=(data.length+127)/128) (j:=(0+q)/128) hL (Nat.zero_le _) (by omega) with⟨h1,h2⟩ | ⟨h1,h2⟩
  · rw[h2]
    have:=bD (hok.form n hn) ((0+q)/128) (by omega) h1
    omega
  · exact hLx _ h2
 generalize hL:bw (bA d)=L at *
 generalize hfr:fresh (rb d n) 0 ((data.length+127)/128)=fr at *
 by_cases hc:fr.length≤L.length
 rotate_left
 · rw[if_neg hc] at hw
   rw[if_pos (by omega),hw]
 rw[if_pos hc] at hw
 obtain⟨o,h1,h2,h3,h4⟩:=hw
 rw[if_neg (by omega),h1]
 dsimp only
 have hbk:=hok2 L hc fun x hx=>⟨(hfl x hx).1,(hfl x hx).2.1⟩
 have hlx : ∀ x∈L.take fr.length,x<96:=fun x hx=>(hfl x (List.mem_of_mem_take hx)).2.1
 have hcl:=pX hd hlx
 have hcb:=uD hd hlx
 have hb12:(dp (bA d) (L.take fr.length)).length=12:=by rw[jJ,aU hd]
 generalize kJ (rb d n) (fr.zip L)=b' at *
 generalize dp (bA d) (L.take fr.length)=bits at *
 generalize vk d (L.take fr.length)=e0 at *
 obtain⟨p1,p2⟩:=gT (o:=e0) (o':=o) (b:=b') (off:=0) (data:=data) hcl h2 hbk (fun m hm=>by rw[hcb,h4 m hm]) data.length (Nat.le_refl _)
 obtain⟨-,p3⟩:=gT (o:=o) (o':=o) (b:=b') (off:=0) (data:=data) h2 h2 hbk (fun m hm=>rfl) data.length (Nat.le_refl _)
 have l1:=(gh e0 b' 0 data data.length).trans hcl
 have l2:=(gh o b' 0 data data.length).trans h2
 rw[← wv]
 generalize mK e0 b' 0 data data.length=x1 at *
 generalize mK o b' 0 data data.length=x2 at *
 congr 1
 have l3:=bf l1 hn (rk d n) (max (rs d n) data.length) b'
 refine bW (by rw[aP l3 hb12,bf l2 hn]) fun m hm=>?_
 rw[aX l3 hb12,bO l1 hn,bO l2 hn]
 by_cases hbm:1664≤m∧m<1676
 · rw[if_pos hbm,if_neg (by omega),p3 m (by omega),← h3]
   unfold bA
   rw[a8 (by omega) (by omega)]
   congr 1
   omega
 · rw[if_neg hbm,p1 m hbm]
def qu (b:List UInt8) (i:Nat):List Nat:=(List.range' 18 (i - 18)).filter fun j=>!da b j
theorem r9 (b:List UInt8) {i:Nat} (hi:18≤i):qu b (i+1)=qu b i++(if da b i=true then [] else [i]):=by
 unfold qu
 rw[show i+1 - 18=i - 18+1 by omega,List.range'_1_concat,List.filter_append,show 18+(i - 18)=i by omega]
 congr 1
 by_cases h:da b i=true
 · rw[if_pos h,List.filter_cons_of_neg (by simp[h])]
   rfl
 · rw[if_neg h,List.filter_cons_of_pos (by simpa using h)]
   rfl
theorem Aa (b:List UInt8) {i:Nat} (h1:18≤i) (h2:i≤96) : ∃ r,bw b=qu b i++r:=by
 refine⟨(List.range' i (96 - i)).filter fun j=>!da b j,?_⟩
 unfold bw qu
 rw[← List.filter_append]
 congr 1
 have:=List.range'_append_1 (s:=18) (m:=i - 18) (n:=96 - i)
 rw[show 18+(i - 18)=i by omega,show(i - 18)+(96 - i)=78 by omega] at this
 exact this.symm
theorem zM (b:List UInt8):qu b 96=bw b:=rfl
def y3 (b:List UInt8) (n:Nat) (v:Value) (F:Fx):Prop:=
 if (bw b).length<n then ∃ e:Int,e=13∧v = .tuple #[.slice none 0 0,.slice none 0 0,.int .i64 e]∧F=⟨fun w=>True,[]⟩
 else ∃ (l k:Hd) (e:Int),e=0∧v = .tuple #[l.v n,k.v b.length,.int .i64 e]∧l.Ok n∧k.Ok b.length∧F=⟨fun w=>aB w l.a (((bw b).take n).map aE)∧By w k (dp b ((bw b).take n)),[]⟩
theorem wj (b:List UInt8) (h:Hd) (hh:h.Ok b.length) (hb:b.length=12) (n:Nat) (hn:1≤n) (hn2:n≤1000):af Tryz.prog 125 [h.v b.length,.int .i64 18,.int .i64 96,.int .i64 (n:Int)] (fun w=>By w h b) (y3 b n):=by
 generalize h96:(96:Int)=n96
 generalize h18:(18:Int)=n18
 refine af.aF ab Tryz.func125 rfl (by decide) (n:=Tryz.f125.ntmps - 4) rfl rfl fun w0 av=>?_
 conv=>whnf
 subst h18 h96
 refine ak.val (nv b h 18 96 (by omega) (by omega)) (fun w hw=>trivial) (fun v D hv=>?_)
 obtain⟨vv,hvv⟩ : ∃ vv,vv=true:=⟨_,rfl⟩
 rw[← hvv] at hv
 subst hv
 conv=>whnf
 repeat (refine aa.of ?_;conv=>whnf)
 refine aH.no (by subst hvv;simp[au];omega) ?_
 conv=>whnf
 refine ak.pure (eE b h hh (by omega) (by omega)) (fun w hw=>hw) (fun v D hv=>?_)
 obtain⟨b1,cap1,Z,rfl,hcap1,rfl⟩:=hv
 conv=>whnf
 generalize h96:(96:Int)=n96
 refine aI.loop ab (ι:=Nat×Nat×List Nat×List UInt8×Option Addr×Nat×List Value) ([8,11]++List.range' 24 22)
  (fun x=>(18≤x.1∧x.1≤96)∧x.2.2.1=qu b x.1∧x.2.1=x.2.2.1.length∧x.2.1≤n∧x.2.2.2.1=dp b x.2.2.1∧x.2.2.2.1.length=12∧Go.Sx.Own 1 x.2.1 x.2.2.2.2.1 x.2.2.2.2.2.1 x.2.2.2.2.2.2 (x.2.2.1.map aE))
  (fun x=>[(8,.v (.slice x.2.2.2.2.1 x.2.1 x.2.2.2.2.2.1)),(11,.v (.int .i64 (x.1:Int)))]) (fun _=>[])
  (fun x=>⟨fun w=>By w h b,[] ++ [(b1,Row.c (x.2.2.2.1.map ao++Z))]++aR x.2.2.2.2.1 x.2.2.2.2.2.2⟩)
  (fun x=>96 - x.1) (18,0,[],b,none,0,[]) ⟨⟨Nat.le_refl _,by omega⟩,rfl,rfl,Nat.zero_le _,rfl,hb,Go.Sx.Own.nil 1⟩ ?_ rfl (aq.of_le ⟨by simp[aR,Fx.and],fun w hw=>by exact hw.1⟩) fun x hx=>?_
 · conv=>whnf
   repeat (first | exact aw.nil | refine aw.any ?_ | refine aw.cons ?_)
 obtain⟨i,m,acc,ba,a,cap,C⟩:=x
 obtain⟨⟨hi1,hi2⟩,hac,hm,hmn,hba,hbl,hO⟩:=hx
 dsimp only at hi1 hi2 hac hm hmn hba hbl hO ⊢
 conv=>whnf
 repeat (refine aa.of ?_;conv=>whnf)
 refine aH.split (fun ht=>?_) (fun ht=>?_)
 · have hlt:i<96∧m<n:=by
    subst h96
    simp only[au,Bool.and_eq_true,decide_eq_true_eq] at ht
    omega
   have hsu:=r9 b hi1
   have hlen:=r9 b hi1
   conv=>whnf
   refine ak.val (qQ b h hh i (by omega) (by omega)) (fun w hw=>hw) (fun v D hv=>?_)
   generalize hg:da b i=g at hv hsu
   subst hv
   conv=>whnf
   cases g
   · rw[if_neg (by simp)] at hsu
     conv=>whnf
     repeat' (first
      | (refine aH.yes rfl ?_;conv=>whnf))
     refine aj.build ab (t:=97) rfl rfl rfl [.int .i64 (i:Int)] rfl rfl (by simp[Value.cells]) (by decide) fun b0=>?_
     conv=>whnf
     refine aj.c_ (F':=⟨fun w=>By w h b,[(b1,Row.c (ba.map ao++Z))]++aR a C ++ [(b0,Row.c [aE i])]⟩) (aq.of_le ⟨by simp[Value.cells,aE],fun w hw=>hw⟩) ?_
     refine aj.append ab (t:=97) (xt:=97) rfl rfl rfl rfl rfl rfl (r1:=[(b1,Row.c (ba.map ao++Z))]) (r2:=[(b0,Row.c [aE i])]) (M:=[aE i]) hO (bp.row (by simp)) rfl (by simp[aE,aO]) (by omega) (by simp;omega) fun a' c' C' hO'=>?_
     conv=>whnf
     refine ak.c_ (F':=⟨fun w=>By w h b,[] ++ [(b1,Row.c (ba.map ao++Z))]++aR a' C'⟩) (aq.of_le ⟨by simp,fun w hw=>hw⟩) ?_
     rw[show b.length=ba.length by omega]
     refine ak.rows (mu b1 ba Z cap1 i true (by omega) (by omega) (by omega)) (fun w hw=>trivial) (fun v F hv=>?_)
     subst hv
     have hpl:=bz ba i true
     conv=>whnf
     refine⟨(i+1,m+1,acc ++ [i],cq ba i true,a',c',C'),⟨⟨⟨by dsimp only;omega,by dsimp only;omega⟩,?_,?_,?_,?_,?_,?_⟩,by dsimp only;omega⟩,?_,?_,?_⟩
     · dsimp only
       rw[hsu,hac]
     · dsimp only
       simp[hm]
     · dsimp only
       omega
     · dsimp only
       rw[hba,dp,dp,List.foldl_append]
       rfl
     · dsimp only
       omega
     · dsimp only
       rw[List.map_append]
       exact hO'
     · conv=>whnf
       refine⟨?_,rfl⟩
       repeat (first | exact aw.nil | refine aw.any ?_ | refine aw.cons ?_ | refine aw.eq (by rw[wrap_i64 (by omega)];rfl) ?_)
     · conv=>whnf
       exact trivial
     · exact aq.of_le ⟨by simp,fun w hw=>hw.1⟩
   · rw[if_pos rfl,List.append_nil] at hsu
     conv=>whnf
     repeat' (first
      | (refine aH.no rfl ?_;conv=>whnf))
     refine⟨(i+1,m,acc,ba,a,cap,C),⟨⟨⟨by dsimp only;omega,by dsimp only;omega⟩,?_,hm,hmn,hba,hbl,hO⟩,by dsimp only;omega⟩,?_,?_,aq.refl _⟩
     · dsimp only
       rw[hsu,hac]
     · conv=>whnf
       refine⟨?_,rfl⟩
       repeat (first | exact aw.nil | refine aw.any ?_ | refine aw.cons ?_ | refine aw.eq (by rw[wrap_i64 (by omega)];rfl) ?_)
     · conv=>whnf
       exact trivial
 · have hend : ¬ (i<96∧m<n):=fun hc=>by
    subst h96
    simp[au] at ht
    omega
   obtain⟨r,hr⟩:=Aa b hi1 hi2
   conv=>whnf
   refine aH.split (fun hq=>?_) (fun hq=>?_)
   · have hq':m<n:=by simpa [au] using hq
     have hie:i=96:=by omega
     subst hie
     rw[zM] at hac
     conv=>whnf
     refine⟨⟨fun w=>True,[]⟩,aq.bare fun w hw=>trivial,?_⟩
     unfold y3
     rw[if_pos (by rw[← hac];omega)]
     exact⟨13,rfl,rfl,rfl⟩
   · have hq':m=n:=by
      simp[au] at hq
      omega
     subst hq'
     have htk:(bw b).take m=acc:=by
      rw[hr,← hac,hm,List.take_left]
     have hll : ¬ (bw b).length<m:=by
      rw[hr,← hac,List.length_append]
      omega
     conv=>whnf
     refine⟨⟨fun w=>aB w a (acc.map aE)∧By w ⟨some ⟨b1,0,none⟩,cap1⟩ ba,[]⟩,?_,?_⟩
     · refine(Go.Sx.Own.share (r1:=[] ++ [(b1,Row.c (ba.map ao++Z))]) (r2:=[]) hO |> fun h=>(show aq ⟨_,[] ++ [(b1,Row.c (ba.map ao++Z))]++aR a C⟩ ⟨_,[] ++ [(b1,Row.c (ba.map ao++Z))] ++ []⟩ from by simpa using h)).trans ?_
       exact aq.nE.trans (aq.imp fun w hw=>⟨hw.1.2,hw.2⟩)
     · unfold y3
       rw[if_neg hll,htk,← hba]
       exact⟨⟨a,cap⟩,⟨some ⟨b1,0,none⟩,cap1⟩,0,rfl,rfl,hO.hd,⟨fun h=>(by cases h),hcap1⟩,rfl⟩
def qg (bv:Nat) (X:Value) (g:Nat→iW) (k:Hd) (bits:List UInt8) (n:Nat) (v:Value) (F:Fx):Prop:=
 if (bw bits).length<n then ∃ r:Bool,r=false∧v = .tuple #[.slice none 0 0,.bool r]∧Cq bv X g k bits F
 else ∃ (l k2:Hd) (r:Bool),r=true∧v = .tuple #[l.v n,.bool r]∧l.Ok n∧k2.Ok 12∧F=⟨fun w=>aB w l.a (((bw bits).take n).map aE)∧By w k2 (dp bits ((bw bits).take n)),[(bv,Row.c (dX X g (k2.v 12)))]⟩
theorem vx (bv:Nat) (X:Value) (g:Nat→iW) (k:Hd) (bits:List UInt8) (hk:k.Ok 12) (hb:bits.length=12) (n:Nat) (hn2:n≤1000) :
 bM Tryz.prog 75 [.pointer (some ⟨bv,0,none⟩),.int .i64 (n:Int)] [(bv,Row.c (dX X g (k.v 12)))] (fun w=>By w k bits) (qg bv X g k bits n):=by
 have hV:=fh X g (k.v 12)
 have hl:=nk X g (k.v 12)
 have hst:=fun Y'=>p9 X g (k.v 12) Y'
 have hs:=fun hn=>wj bits k (by rw[hb];exact hk) hb n hn hn2
 have hno:(bw bits).length<n→∀ r:Bool,r=false→qg bv X g k bits n (.tuple #[.slice none 0 0,.bool r]) ⟨fun w=>By w k bits,[(bv,Row.c (dX X g (k.v 12)))]⟩:=fun h r hr=>by
  unfold qg Cq
  rw[if_pos h]
  exact⟨r,hr,rfl,rfl⟩
 have hyes : ¬ (bw bits).length<n→∀ (l k2:Hd) (r:Bool),r=true→l.Ok n→k2.Ok 12→qg bv X g k bits n (.tuple #[l.v n,.bool r]) ⟨fun w=>aB w l.a (((bw bits).take n).map aE)∧By w k2 (dp bits ((bw bits).take n)),[(bv,Row.c (dX X g (k2.v 12)))]⟩:=fun h l k2 r hr hl hk=>by
  unfold qg
  rw[if_neg h]
  exact⟨l,k2,r,hr,rfl,hl,hk,rfl⟩
 generalize qg bv X g k bits n=RV at *
 refine bM.aF ab Tryz.func75 rfl (by decide) (n:=Tryz.f75.ntmps - 2) rfl rfl (by simp) fun w0 av=>?_
 rw[hb] at hs
 generalize hVe:dX X g (k.v 12)=V at *
 conv=>whnf
 repeat (refine aa.of ?_;conv=>whnf)
 refine aH.split (fun hz=>?_) (fun hz=>?_)
 · have hz':n=0:=by
    simp[aD] at hz
    omega
   subst hz'
   have hy:=hyes (by omega) Hd.nil k true rfl Hd.dq hk
   rw[hVe] at hy
   conv=>whnf
   repeat (refine aa.of ?_;conv=>whnf)
   exact⟨⟨fun w=>aB w Hd.nil.a (((bw bits).take 0).map aE)∧By w k (dp bits ((bw bits).take 0)),[(bv,Row.c V)]⟩,aq.of_le ⟨List.Sublist.refl _,fun w hw=>⟨By.nil w,hw⟩⟩,hy⟩
 have hn:1≤n:=by
  simp[aD] at hz
  omega
 have hs:=hs hn
 unfold y3 at hs
 rw[hb] at hs
 conv=>whnf
 repeat (refine aa.of ?_;conv=>whnf)
 refine aj.ah (ai.bS ab (t:=23) rfl rfl (ad:=⟨bv,0,none⟩) (k:=449) (L:=V) (v:=k.v 12) (bp.row (by simp)) (fun _=>rfl) hl ?_)
 conv=>whnf
 repeat (refine aa.of ?_;conv=>whnf)
 by_cases hf:(bw bits).length<n
 · simp only[if_pos hf] at hs
   refine ak.pure hs (fun w hw=>hw) (fun v D hv=>?_)
   obtain⟨e,he,rfl,rfl⟩:=hv
   conv=>whnf
   refine aH.yes (by subst he;simp[ar]) ?_
   conv=>whnf
   exact⟨_,aq.of_le ⟨by simp[Fx.and],fun w hw=>hw.1⟩,hno hf false rfl⟩
 · simp only[if_neg hf] at hs
   have hyes:=hyes hf
   refine ak.pure hs (fun w hw=>hw) (fun v D hv=>?_)
   obtain⟨l,k2,e,he,rfl,hlo,hk2,rfl⟩:=hv
   generalize dp bits ((bw bits).take n)=bits' at *
   generalize (bw bits).take n=LL at *
   conv=>whnf
   refine aH.no (by subst he;simp[ar]) ?_
   conv=>whnf
   refine a_.cE ab (t:=23) rfl (r1:=[]) (r2:=[]) (b:=bv) (k:=449) (C:=V) (v:=k2.v 12) (by rw[Addr.aV]) rfl (by simp[Value.cells,aO,Hd.v]) (by rw[hV];decide) ?_
   rw[show laid V 449 (k2.v 12).cells.toList=dX X g (k2.v 12) from hst _]
   conv=>whnf
   repeat (refine aa.of ?_;conv=>whnf)
   exact⟨⟨fun w=>aB w l.a (LL.map aE)∧By w k2 bits',[(bv,Row.c (dX X g (k2.v 12)))]⟩,aq.of_le ⟨by simp[Fx.and],fun w hw=>hw.2⟩,hyes l k2 true rfl hlo hk2⟩
end Go.Proofs.YtfeoedkmndkbjaaGreatDoor
