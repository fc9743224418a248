/- Parts of the proof: NvQ, NvR, NvS, NwA, NvT, NvU, NvV, NvW, NwB, NwC, NvX, NwD, NyG, NzC, ShC, NzD, NzE, NyA. -/
import Derived.Test.YtfeoedkmndkbjaaGreatDoorQK
import Derived.Test.YtfeoedkmndkbjaaGreatDoorQD
import Derived.Test.YtfeoedkmndkbjaaGreatDoorQI
import Derived.Shelf.Sort.Plain
import Derived.Shelf.Slices.In.SortNone
import Derived.Shelf.SlIter.Nil
import Derived.Test.YtfeoedkmndkbjaaGreatDoorProg
namespace Go.Proofs.YtfeoedkmndkbjaaGreatDoor
open Go Go.Sx
set_option maxRecDepth 100000
set_option maxHeartbeats 4000000
set_option linter.unusedVariables false
set_option linter.unusedSimpArgs false
structure uF (c:List UInt8) (i:Nat):Prop where
 tail : ∀ k,k<14→fV c (16*i) 14≤k→aJ c (16*i+k)=0
 pad:aJ c (16*i+15)=0
 name:fZ c i=([],0)∨cK (fZ c i).1=true
 only:(fZ c i).1 = []∨∀ k,k<i→(fZ c k).1≠(fZ c i).1
theorem rS (c:List UInt8) (i:Nat):ua c i↔uF c i∧((fZ c i).1 = []∨(fZ c i).2≠0):=by
 constructor
 · intro h
   rcases h.name with h5 | h5
   · exact⟨⟨h.tail,h.pad,.inl h5,h.only⟩,.inl (by rw[h5])⟩
   · exact⟨⟨h.tail,h.pad,.inr h5.1,h.only⟩,.inr h5.2⟩
 · rintro⟨h,h2⟩
   refine⟨h.tail,h.pad,?_,h.only⟩
   rcases h.name with h5 | h5
   · exact .inl h5
   · refine .inr ⟨h5,h2.resolve_left fun h6=>?_⟩
     rw[h6] at h5
     cases h5
def D_ (c:List UInt8):Prop:=∀ i,i<8→uF c i
noncomputable instance (c:List UInt8):Decidable (D_ c):=Classical.propDecidable _
noncomputable def ee (c:List UInt8):Bool:=decide (D_ c)
noncomputable def g_ (c:List UInt8):List En:=if ee c then eA c 8 else []
theorem vU {s:List UInt8} (h:cK s=true) : ∀ j,j<s.length→aJ s j≠0:=by
 intro j hj h0
 unfold cK at h
 rw[Bool.and_eq_true,List.all_eq_true] at h
 have h1:=h.1 s[j] (List.getElem_mem hj)
 rw[lJ hj] at h0
 have:=mW.1 h1
 omega
section
variable {c:List UInt8} (hc:c.length=128) {i:Nat} (hi:i<8)
include hc hi
theorem BJ {t:Nat} (ht:t≤14):(cut c (16*i) t).length=t:=aZ (by omega)
theorem zy {t:Nat} (ht:t=iC (cut c (16*i) 16) 14) : ∀ k,k<14→t≤k→aJ c (16*i+k)=0:=by
 intro k hk htk
 have:=sP (cut c (16*i) 16) 14 k (by omega) hk
 rwa [a8 (by omega) (by omega)] at this
theorem Dm {t:Nat} (ht:t=iC (cut c (16*i) 16) 14) (h:cut c (16*i) t = []∨cK (cut c (16*i) t)=true) :
 fV c (16*i) 14=t∧fZ c i=(cut c (16*i) t,aJ c (16*i+14))∧∀ k,k<14→fV c (16*i) 14≤k→aJ c (16*i+k)=0:=by
 have ht14:t≤14:=ht ▸ pY _ 14
 have hz:=zy hc hi ht
 have hl:=BJ hc hi ht14
 have hn:fV c (16*i) 14=t:=by
  refine ny c 14 (16*i) t ht14 (fun j hj=>?_) ?_
  · rcases h with h | h
    · rw[h] at hl
      simp at hl
      omega
    · have:=vU h j (by omega)
      rwa [a8 (by omega) (by omega)] at this
  · by_cases h14:t=14
    · exact .inl h14
    · exact .inr (hz t (by omega) (Nat.le_refl _))
 refine⟨hn,?_,by rw[hn];exact hz⟩
 unfold fZ
 rw[hn]
theorem D8 {t:Nat} (ht:t=iC (cut c (16*i) 16) 14) (h:uF c i):fZ c i=(cut c (16*i) t,aJ c (16*i+14)):=by
 have ht14:t≤14:=ht ▸ pY _ 14
 have hz:=zy hc hi ht
 have hn14:=j_ c 14 (16*i)
 have hle:t≤fV c (16*i) 14:=by
  refine Nat.le_of_not_lt fun hlt=>?_
  have h1:=sL (cut c (16*i) 16) 14 (by omega)
  rw[← ht,a8 (by omega) (by omega)] at h1
  exact h1 (h.tail (t - 1) (by omega) (by omega))
 have hge:fV c (16*i) 14≤t:=by
  refine Nat.le_of_not_lt fun hlt=>?_
  have h2 : ∀ (m o j:Nat),j<fV c o m→aJ c (o+j)≠0:=by
   intro m
   induction m with
   | zero=>intro o j hj;unfold fV at hj;omega
   | succ m ih=>
    intro o j hj
    unfold fV at hj
    split at hj
    · omega
    · rename_i h0
      cases j with
      | zero=>exact h0
      | succ j=>
       have:=ih (o+1) j (by omega)
       rwa [show o+(j+1)=o+1+j by omega]
  exact h2 14 (16*i) t hlt (hz t (by omega) (Nat.le_refl _))
 unfold fZ
 rw[show fV c (16*i) 14=t by omega]
end
theorem A7 {c:List UInt8} {D:World→Prop} {rs:List (Nat×Row)} {i:Nat} (hi:i<8) (h : ¬ uF c i) : ∃ F',aq ⟨D,rs⟩ F'∧ov (g_ c) (ee c) (.tuple #[.slice none 0 0,.bool false]) F':=by
 have h1:ee c=false:=by
  unfold ee
  exact decide_eq_false fun h2=>h (h2 i hi)
 have h2:g_ c = []:=by
  unfold g_
  rw[h1]
  rfl
 rw[h1,h2]
 exact⟨⟨fun _=>True,[]⟩,aq.bare fun w _=>trivial,none,0,[],rfl,Own.nil 2,rfl⟩
theorem sF (e:En) (b:Nat) (s:List UInt8):af Tryz.prog 131 [.agg ⟨gQ e⟩,.pointer (some ⟨b,0,none⟩)] (fun w=>aB w (some ⟨b,0,none⟩) [aC s]) (fun v F=>v = .bool (e.1 == s)):=by
 refine af.aF ab Tryz.func131 rfl (by decide) (n:=Tryz.f131.ntmps - 2) rfl rfl fun w0 av=>?_
 conv=>whnf
 intro b1
 conv=>whnf
 repeat (refine aa.of ?_;conv=>whnf)
 refine aj.ah (ai.bS ab (t:=9) rfl rfl (ad:=⟨b,0,none⟩) (k:=0) (L:=[aC s]) (v:=aC s) (.fact fun w hw=>hw) (fun _=>rfl) rfl ?_)
 conv=>whnf
 repeat (refine aa.of ?_;conv=>whnf)
 refine aj.ah (ai.fL (l:=e.1) (m:=s) ?_)
 conv=>whnf
 repeat (refine aa.of ?_;conv=>whnf)
 exact⟨_,aq.refl _,rfl⟩
theorem px (f:FuncId) (Pre:World→Prop) (p:En→Bool) (u:Value) (l:List En) (h:Hd) (hh:h.Ok l.length) (hl:l.length≤1000000) (hf : ∀ e∈l,af Tryz.prog f [.agg ⟨gQ e⟩,u] Pre (fun v F=>v = .bool (p e))) :
 af Tryz.prog 92 [h.v l.length,.func (.func f) #[] #[u]] (fun w=>aB w h.a (bV l)∧Pre w) (fun v F=>v = .bool (l.any p)):=by
 refine af.aF ab Tryz.func92 rfl (by decide) (n:=Tryz.f92.ntmps - 2) rfl rfl fun w0 av=>?_
 conv=>whnf
 refine ak.val (jS f Pre p u l h hh hl hf) (fun w hw=>hw) (fun v D hv=>?_)
 obtain⟨j,hj⟩ : ∃ j,j=ib (l.findIdx? p):=⟨_,rfl⟩
 rw[← hj] at hv
 subst hv
 conv=>whnf
 repeat (refine aa.of ?_;conv=>whnf)
 refine⟨_,aq.refl _,?_⟩
 show Value.bool (gG j 0)=_
 congr 1
 rw[bI,hj]
 cases hq:l.findIdx? p with
 | none=>
  rw[List.findIdx?_eq_none_iff] at hq
  have:l.any p=false:=by
   rw[List.any_eq_false]
   exact fun x hx=>by simp[hq x hx]
  rw[this]
  rfl
 | some k=>
  rw[List.findIdx?_eq_some_iff_getElem] at hq
  obtain⟨hk,h1,h2⟩:=hq
  have:l.any p=true:=List.any_eq_true.2 ⟨l[k],List.getElem_mem hk,h1⟩
  rw[this]
  show decide ((k:Int)≥0)=true
  simp
theorem rT (c:List UInt8) (h:Hd) (hh:h.Ok c.length) (hc:c.length=128):af Tryz.prog 88 [h.v c.length] (fun w=>By w h c) (ov (g_ c) (ee c)):=by
 have hcap:=hh.cap
 refine af.aF ab Tryz.func88 rfl (by decide) (n:=Tryz.f88.ntmps - 1) rfl rfl fun w0 av=>?_
 conv=>whnf
 refine aI.loop ab (ι:=Nat×Option Addr×Nat×List Value) ([4,5,6,7,8,9]++List.range' 10 52) (fun x=>x.1≤8∧Own 2 x.1 x.2.1 x.2.2.1 x.2.2.2 (bV (eA c x.1))∧∀ j,j<x.1→uF c j)
  (fun x=>[(4,.v (.slice x.2.1 x.1 x.2.2.1)),(10,.v (.int .i64 (x.1:Int)))]) (fun _=>[]) (fun x=>⟨fun w=>By w h c,aR x.2.1 x.2.2.2⟩)
  (fun x=>8 - x.1) (0,none,0,[]) ⟨Nat.zero_le _,Own.nil 2,fun j hj=>by omega⟩ ?_ rfl (aq.of_le ⟨by simp[aR],fun w hw=>hw⟩) fun x hx=>?_
 · conv=>whnf
   repeat (first | exact aw.nil | refine aw.any ?_ | refine aw.cons ?_)
 obtain⟨i,a,cap,C⟩:=x
 obtain⟨hi,hO,hall⟩:=hx
 dsimp only at hi hO hall ⊢
 conv=>whnf
 refine aH.split (fun hlt=>?_) (fun hlt=>?_)
 · conv=>whnf
   have hlt':i<8:=by
    simp only[au,decide_eq_true_eq] at hlt
    omega
   have em:IntKind.i64.wrap ((i:Int)*16)=((16*i:Nat):Int):=by
    rw[wrap_i64 (by omega)]
    omega
   have em2:IntKind.i64.wrap (IntKind.i64.wrap ((i:Int)+1)*16)=((16*i+16:Nat):Int):=by
    rw[wrap_i64 (n:=(i:Int)+1) (by omega),wrap_i64 (by omega)]
    omega
   have hok:(Hd.sub h (16*i)).Ok 16:=Hd.eu hh (by omega)
   have hok14:(Hd.sub h (16*i)).Ok 14:=Hd.eu hh (by omega)
   have hby : ∀ w,By w h c→By w (Hd.sub h (16*i)) (cut c (16*i) 16):=fun w hw=>By.sub hw (by omega)
   have hbl:(cut c (16*i) 16).length=16:=aZ (by omega)
   have hbt : ∀ k,k<16→aJ (cut c (16*i) 16) k=aJ c (16*i+k):=fun k hk=>a8 (by omega) hk
   refine aj.ah (ai.pD ab (t:=23) rfl rfl rfl rfl (16*i) 16 em em2 (by omega) ?_)
   conv=>whnf
   repeat (refine aa.of ?_;conv=>whnf)
   obtain⟨n14,hn14⟩ : ∃ n,n=14:=⟨_,rfl⟩
   refine aj.ah (ai.gA ab (t:=23) rfl rfl rfl n14 (by rw[hn14];rfl) (by have:=hok.cap;omega) ?_)
   conv=>whnf
   repeat (refine aa.of ?_;conv=>whnf)
   obtain⟨cs,hcs⟩ : ∃ cs:List UInt8,cs = [0]:=⟨_,rfl⟩
   refine ak.val (qs (cut c (16*i) 16) (Hd.sub h (16*i)) n14 (by rw[hn14];exact hok14) (by omega) (by omega) (by omega) [0] rfl) (fun w hw=>hby w hw) (fun v D hv=>?_)
   rw[hn14] at hv
   obtain⟨t,ht⟩ : ∃ t,t=iC (cut c (16*i) 16) 14:=⟨_,rfl⟩
   rw[← ht] at hv
   subst hv
   have ht14:t≤14:=ht ▸ pY _ 14
   have hct:((cut c (16*i) 16).take t)=cut c (16*i) t:=by
    unfold cut
    rw[List.take_take,Nat.min_eq_left (by omega)]
   have hnl:=BJ hc hlt' ht14
   have hE1:=Dm hc hlt' ht
   have hE2:=D8 hc hlt' ht
   conv=>whnf
   repeat (refine aa.of ?_;conv=>whnf)
   refine aj.ah (ai.bytes ab (t:=23) (u:=9) rfl rfl rfl rfl rfl rfl (l:=cut c (16*i) t) (.fact fun w hw=>by have h2:=aB.take (hby w hw) t;rw[← List.map_take,hct] at h2;exact h2) hnl.symm ?_)
   conv=>whnf
   repeat (refine aa.of ?_;conv=>whnf)
   intro b7
   conv=>whnf
   repeat (refine aa.of ?_;conv=>whnf)
   refine aj.ah (ai.cL ab (t:=23) rfl rfl rfl rfl 14 rfl (by omega) hok fun ad had=>?_)
   conv=>whnf
   repeat (refine aa.of ?_;conv=>whnf)
   refine aj.ah (ai.cy ab (t:=5) rfl rfl had (.fact fun w h=>hby w h) rfl (by omega) ?_)
   rw[hbt 14 (by omega)]
   conv=>whnf
   repeat (refine aa.of ?_;conv=>whnf)
   rw[ej]
   have hbad : ∀ (D:World→Prop) (rs:List (Nat×Row)),¬ uF c i→∃ F',aq ⟨D,rs⟩ F'∧ov (g_ c) (ee c) (.tuple #[.slice none 0 0,.bool false]) F':=fun D rs hn=>A7 hlt' hn
   have hb15:=hbt 15 (by omega)
   generalize cut c (16*i) t=nm at *
   generalize aJ c (16*i+14)=nd at *
   refine aj.ah (ai.fL (l:=nm) (m:=[]) ?_)
   conv=>whnf
   repeat (refine aa.of ?_;conv=>whnf)
   generalize hun:((nm == [])&&cN (nd:Int) 0)=un
   have hun':un=true↔nm = []∧nd=0:=by
    rw[← hun,Bool.and_eq_true,aD]
    simp
   have hlast : ∀ (D:World→Prop),uF c i→D=D:=fun _ _=>rfl
   have hvs:=qf nm (by omega)
   have hsee : ∀ bs cs,bp w0 (fun _ _=>False) av bs cs ⟨fun w=>By w h c,aR a C⟩ a (bV (eA c i)):=fun bs cs=>by
    have:=Own.Db (w0:=w0) (R:=fun _ _=>False) (av:=av) (bs:=bs) (cs:=cs) (r1:=[]) (r2:=[]) (D:=fun w=>By w h c) hO
    simpa using this
   have hel:(eA c i).length=i:=by simp[eA]
   cases un
   · have hun2 : ¬ (nm = []∧nd=0):=fun h=>by
      have:=hun'.2 h
      cases this
     conv=>whnf
     repeat (refine aa.of ?_;conv=>whnf)
     refine ak.val hvs (fun w hw=>trivial) (fun v D hv=>?_)
     generalize hvn:cK nm=vn at hv
     subst hv
     cases vn
     · conv=>whnf
       repeat (refine aa.of ?_;conv=>whnf)
       repeat' (first
        | (refine aH.yes rfl ?_;conv=>whnf))
       refine hbad _ _ fun hp=>?_
       rcases hp.name with h5 | h5
       · rw[hE2 hp] at h5
         exact hun2 (by simpa using h5)
       · rw[hE2 hp] at h5
         rw[h5] at hvn
         cases hvn
     obtain⟨hnl2,hE,htail⟩:=hE1 (.inr hvn)
     conv=>whnf
     repeat (refine aa.of ?_;conv=>whnf)
     repeat' (first
      | (refine aH.no rfl ?_;conv=>whnf))
     refine aj.ah (ai.cL ab (t:=23) rfl rfl rfl rfl 15 rfl (by omega) hok fun ad had=>?_)
     conv=>whnf
     repeat (refine aa.of ?_;conv=>whnf)
     refine aj.ah (ai.cy ab (t:=5) rfl rfl had (.fact fun w h=>hby w h) rfl (by omega) ?_)
     rw[hb15]
     conv=>whnf
     repeat (refine aa.of ?_;conv=>whnf)
     refine aH.split (fun hpd=>?_) (fun hpd=>?_)
     · conv=>whnf
       repeat (refine aa.of ?_;conv=>whnf)
       exact hbad _ _ fun hp=>by
        have:=hp.pad
        rw[this] at hpd
        simp[ar] at hpd
     have hpd':aJ c (16*i+15)=0:=by
      simp[ar] at hpd
      omega
     have hcs:=px 131 (fun w=>aB w (some ⟨b7,0,none⟩) [aC nm]) (fun e=>e.1 == nm) (.pointer (some ⟨b7,0,none⟩)) (eA c i) ⟨a,cap⟩ (by rw[hel];exact⟨fun ha=>hO.e6 ha,hO.fit⟩) (by omega) (fun e _=>sF e b7 nm)
     rw[hel] at hcs
     conv=>whnf
     repeat (refine aa.of ?_;conv=>whnf)
     refine ak.look hcs (Loc.and (Loc.row _ _) (Loc.row _ _)) (fun w hst=>⟨hsee _ _ w hst,bp.box 0 rfl (by simp) rfl w hst⟩) ?_
     generalize hcn:(eA c i).any (fun e=>e.1 == nm)=cn
     have hcn':cn=true↔∃ k,k<i∧(fZ c k).1=nm:=by
      rw[← hcn,List.any_eq_true]
      constructor
      · rintro⟨e,he,h5⟩
        obtain⟨k,hk,rfl⟩:=List.mem_map.1 he
        exact⟨k,List.mem_range.1 hk,by simpa using h5⟩
      · rintro⟨k,hk,h5⟩
        exact⟨fZ c k,List.mem_map.2 ⟨k,List.mem_range.2 hk,rfl⟩,by simpa using h5⟩
     cases cn
     · have hOk:uF c i:=⟨htail,hpd',.inr (by rw[hE];exact hvn),.inr fun k hk h5=>by
        rw[hE] at h5
        have:=hcn'.2 ⟨k,hk,h5⟩
        cases this⟩
       conv=>whnf
       repeat (refine aa.of ?_;conv=>whnf)
       repeat' (first
        | (refine aH.no rfl ?_;conv=>whnf))
       refine aj.build ab (t:=111) rfl rfl rfl [.agg ⟨[aC nm,aE nd]⟩] rfl rfl (by simp[Value.cells]) (by decide) fun b1=>?_
       conv=>whnf
       repeat (refine aa.of ?_;conv=>whnf)
       refine aj.c_ (F':=⟨fun w=>By w h c,[]++aR a C ++ [(b1,Row.c (gQ (nm,nd)))]⟩) (aq.of_le ⟨by simp[Value.cells,gQ],fun w hw=>hw⟩) ?_
       refine aj.append ab (t:=111) (xt:=111) rfl rfl rfl rfl rfl rfl (r1:=[]) (r2:=[(b1,Row.c (gQ (nm,nd)))]) (M:=gQ (nm,nd)) hO (bp.row (by simp)) rfl (by simp[gQ,aC,aE,aO]) (by omega) (by simp;omega) fun a' c' C' hO'=>?_
       conv=>whnf
       repeat (refine aa.of ?_;conv=>whnf)
       refine⟨(i+1,a',c',C'),⟨⟨hlt',?_,fun j hj=>?_⟩,by dsimp only;omega⟩,?_,?_,?_⟩
       · dsimp only
         rw[qA,ox,hE]
         exact hO'
       · rcases Nat.lt_or_eq_of_le (Nat.lt_succ_iff.1 hj) with h5 | h5
         · exact hall j h5
         · rw[h5];exact hOk
       · conv=>whnf
         refine⟨?_,rfl⟩
         repeat (first | exact aw.nil | refine aw.any ?_ | refine aw.cons ?_ | refine aw.eq (by rw[wrap_i64 (by omega)];rfl) ?_)
       · conv=>whnf
         exact trivial
       · refine aq.of_le ⟨by simp,fun w hw=>hw⟩
     · conv=>whnf
       repeat (refine aa.of ?_;conv=>whnf)
       repeat' (first
        | (refine aH.yes rfl ?_;conv=>whnf))
       refine hbad _ _ fun hp=>?_
       obtain⟨k,hk,h5⟩:=hcn'.1 rfl
       rcases hp.only with h6 | h6
       · rw[hE] at h6
         have h6:nm = []:=h6
         rw[h6] at hvn
         cases hvn
       · have:=h6 k hk
         rw[hE] at this
         exact this h5
   · obtain⟨hn0,hnd0⟩:=hun'.1 rfl
     obtain⟨hnl2,hE,htail⟩:=hE1 (.inl hn0)
     conv=>whnf
     repeat (refine aa.of ?_;conv=>whnf)
     repeat' (first
      | (refine aH.no rfl ?_;conv=>whnf))
     refine aj.ah (ai.cL ab (t:=23) rfl rfl rfl rfl 15 rfl (by omega) hok fun ad had=>?_)
     conv=>whnf
     repeat (refine aa.of ?_;conv=>whnf)
     refine aj.ah (ai.cy ab (t:=5) rfl rfl had (.fact fun w h=>hby w h) rfl (by omega) ?_)
     rw[hb15]
     conv=>whnf
     repeat (refine aa.of ?_;conv=>whnf)
     refine aH.split (fun hpd=>?_) (fun hpd=>?_)
     · conv=>whnf
       repeat (refine aa.of ?_;conv=>whnf)
       exact hbad _ _ fun hp=>by
        have:=hp.pad
        rw[this] at hpd
        simp[ar] at hpd
     have hpd':aJ c (16*i+15)=0:=by
      simp[ar] at hpd
      omega
     have hOk:uF c i:=⟨htail,hpd',.inl (by rw[hE,hn0,hnd0]),.inl (by rw[hE];exact hn0)⟩
     conv=>whnf
     repeat (refine aa.of ?_;conv=>whnf)
     repeat' (first
      | (refine aH.no rfl ?_;conv=>whnf))
     refine aj.build ab (t:=111) rfl rfl rfl [.agg ⟨[aC nm,aE nd]⟩] rfl rfl (by simp[Value.cells]) (by decide) fun b1=>?_
     conv=>whnf
     repeat (refine aa.of ?_;conv=>whnf)
     refine aj.c_ (F':=⟨fun w=>By w h c,[]++aR a C ++ [(b1,Row.c (gQ (nm,nd)))]⟩) (aq.of_le ⟨by simp[Value.cells,gQ],fun w hw=>hw⟩) ?_
     refine aj.append ab (t:=111) (xt:=111) rfl rfl rfl rfl rfl rfl (r1:=[]) (r2:=[(b1,Row.c (gQ (nm,nd)))]) (M:=gQ (nm,nd)) hO (bp.row (by simp)) rfl (by simp[gQ,aC,aE,aO]) (by omega) (by simp;omega) fun a' c' C' hO'=>?_
     conv=>whnf
     repeat (refine aa.of ?_;conv=>whnf)
     refine⟨(i+1,a',c',C'),⟨⟨hlt',?_,fun j hj=>?_⟩,by dsimp only;omega⟩,?_,?_,?_⟩
     · dsimp only
       rw[qA,ox,hE]
       exact hO'
     · rcases Nat.lt_or_eq_of_le (Nat.lt_succ_iff.1 hj) with h5 | h5
       · exact hall j h5
       · rw[h5];exact hOk
     · conv=>whnf
       refine⟨?_,rfl⟩
       repeat (first | exact aw.nil | refine aw.any ?_ | refine aw.cons ?_ | refine aw.eq (by rw[wrap_i64 (by omega)];rfl) ?_)
     · conv=>whnf
       exact trivial
     · refine aq.of_le ⟨by simp,fun w hw=>hw⟩
 · conv=>whnf
   have hie:i=8:=by
    simp only[au,decide_eq_false_iff_not] at hlt
    omega
   subst hie
   have h1:ee c=true:=decide_eq_true hall
   have h2:g_ c=eA c 8:=by
    unfold g_
    rw[h1]
    rfl
   rw[h1,h2]
   have hel:(eA c 8).length=8:=by simp[eA]
   refine⟨⟨fun _=>True,aR a C⟩,aq.imp fun _ _=>trivial,a,cap,C,?_,by rw[hel];exact hO,rfl⟩
   rw[hel]
theorem sk (c:List UInt8) (h:Hd) (hh:h.Ok c.length) (hc:c.length=128):af Tryz.prog 88 [h.v c.length] (fun w=>By w h c) (Ds (g_ c) (ee c)):=
 (rT c h hh hc).weaken fun v F ⟨a,cap,C,hv,hO,hF⟩=>by
  subst hv hF
  exact⟨⟨fun w=>aB w a (bV (g_ c)),[]⟩,(Own.gives hO).trans (aq.imp fun w h=>h.2),⟨a,cap⟩,rfl,⟨fun ha=>hO.e6 ha,hO.fit⟩,rfl⟩
end Go.Proofs.YtfeoedkmndkbjaaGreatDoor
namespace Go.Proofs.YtfeoedkmndkbjaaGreatDoor
open Go Go.Sx
set_option maxRecDepth 100000
set_option maxHeartbeats 4000000
set_option linter.unusedVariables false
set_option linter.unusedSimpArgs false
section
variable {P:Program} {aK:Sx.fk} {w0:World} {R:Nat→Nat→Prop} {av:Nat→Prop} {bs:List (Nat×Nat)} {cs:List (List Value)} {F:Fx}
theorem ai.AA (hT:bn P aK) {t kt et:TypeId} {ti tk:TI} (ht:Sx.look aK t=some ti) (hk:ti.k = .map kt et) (hkt:Sx.look aK kt=some tk) {d:TypeDesc} (hd:xm tk.k=some d) {b:Nat} {l:mJ} {k v:Value} {K:Value→Prop}
 (hm:df w0 R av bs cs F b l) (hkk:MapKept.IsKey d k) (hl : ∀ p∈l,MapKept.IsKey d p.1) (hv : ∀ (i:Nat) u,l[i]? = some (k,u)→u=v) (hin : ∃ p∈l,p.1=k) (h : ∀ ok:Bool,ok=true→K (.tuple #[v,.bool ok])) :
 ai P w0 R av (Instr.lookup t (.map (some b)) k true) bs cs F K:=ai.eg hT ht hk hkt hd hm hkk hl hv hin (h true rfl)
theorem ai.AQ (hT:bn P aK) {t kt et:TypeId} {ti tk:TI} (ht:Sx.look aK t=some ti) (hk:ti.k = .map kt et) (hkt:Sx.look aK kt=some tk) {d:TypeDesc} (hd:xm tk.k=some d) {b:Nat} {l:mJ} {k z:Value} {K:Value→Prop}
 (hm:df w0 R av bs cs F b l) (hkk:MapKept.IsKey d k) (hl : ∀ p∈l,MapKept.IsKey d p.1) (hno : ∀ p∈l,p.1≠k) (hz:(P.info? et).bind (·.zero)=some z) (h : ∀ ok:Bool,ok=false→K (.tuple #[z,.bool ok])) :
 ai P w0 R av (Instr.lookup t (.map (some b)) k true) bs cs F K:=ai.iD hT ht hk hkt hd hm hkk hl hno hz (h false rfl)
end
structure Tree where
 dl:List Nat
 K:Nat→Nat
 E:Nat→List En
 H:Nat→Hd
structure Tree.Ok (T:Tree):Prop where
 len : ∀ n,(T.E n).length=8
 hd : ∀ n,(T.H n).Ok 8
 nd:T.dl.Nodup
 lt : ∀ n∈T.dl,n<32
 small : ∀ n,T.K n≤1000000
 node : ∀ n,∀ e∈T.E n,e.2≤1000000
def Tree.kv (T:Tree) (l:List Nat):mJ:=l.map fun m=>(aE m,.slice (T.H m).a 8 (T.H m).c)
def oh (K:Nat→Nat) (n:Nat):List Value:=(List.range n).map (fun m=>aE (K m))++List.replicate (32 - n) (aE 0)
def dv (X:Value) (bm:Nat) (K:Nat→Nat) (n:Nat):List Value:=X :: .map (some bm)::oh K n
def bU (T:Tree) (X:Value) (bt bm:Nat) (w:World):Prop:=
 aB w (some ⟨bt,0,none⟩) (dv X bm T.K 32)∧jm w bm (T.kv T.dl)∧∀ n∈T.dl,aB w (T.H n).a (bV (T.E n))
theorem Tree.ld (T:Tree) (l:List Nat) : ∀ p∈T.kv l,MapKept.IsKey (.int .i64) p.1:=by
 intro p hp
 obtain⟨n,_,rfl⟩:=List.mem_map.1 hp
 rfl
theorem m6 {a b:Nat} (h:aE a=aE b):a=b:=by
 unfold aE at h
 simp at h
 omega
theorem Tree.zA (T:Tree) {l:List Nat} {n:Nat} (h:n ∉ l) : ∀ p∈T.kv l,p.1≠aE n:=by
 intro p hp he
 obtain⟨m,hm,rfl⟩:=List.mem_map.1 hp
 exact h (m6 he ▸ hm)
theorem Tree.qN (T:Tree) {l:List Nat} {n:Nat} : ∀ (i:Nat) u,(T.kv l)[i]? = some (aE n,u)→u = .slice (T.H n).a 8 (T.H n).c:=by
 intro i u h
 unfold Tree.kv at h
 rw[List.getElem?_map] at h
 cases hq:l[i]? with
 | none=>rw[hq] at h;cases h
 | some m=>
  rw[hq] at h
  simp only[Option.map_some,Option.some.injEq,Prod.mk.injEq] at h
  obtain⟨h1,h2⟩:=h
  rw[← h2,m6 h1]
theorem Tree.wz (T:Tree) {l:List Nat} {n:Nat} (h:n∈l) : ∃ p∈T.kv l,p.1=aE n:=⟨_,List.mem_map.2 ⟨n,h,rfl⟩,rfl⟩
theorem xR (K:Nat→Nat) {n:Nat} (hn:n≤32):(oh K n).length=32:=by
 simp[oh]
 omega
theorem r5 (X:Value) (bm:Nat) (K:Nat→Nat) {n m:Nat} (hm:m<n):(dv X bm K n)[2+m]? = some (aE (K m)):=by
 unfold dv
 rw[show 2+m=m+1+1 by omega,List.getElem?_cons_succ,List.getElem?_cons_succ]
 unfold oh
 rw[List.getElem?_append_left (by simp;omega)]
 simp[hm]
def Tree.find (T:Tree) (n:Nat) (s:List UInt8):Nat×Nat:=if n∈T.dl then match db (T.E n) s with
 | none=>(0,8)
 | some k=>(((T.E n)[k]?.map (·.2)).getD 0,0)
 else (0,14)
def Tree.walk (T:Tree):List (List UInt8)→Nat→Nat×Nat
 | [],n=>(n,0)
 | s::r,n=>if (T.find n s).2≠0 then (0,(T.find n s).2) else T.walk r (T.find n s).1
theorem sw (e:En) (b:Nat) (s:List UInt8):af Tryz.prog 120 [.agg ⟨gQ e⟩,.pointer (some ⟨b,0,none⟩)] (fun w=>aB w (some ⟨b,0,none⟩) [aC s]) (fun v F=>v = .bool (e.1 == s)):=by
 refine af.aF ab Tryz.func120 rfl (by decide) (n:=Tryz.f120.ntmps - 2) rfl rfl fun w0 av=>?_
 conv=>whnf
 intro b1
 conv=>whnf
 repeat (refine aa.of ?_;conv=>whnf)
 refine aj.ah (ai.bS ab (t:=9) rfl rfl (ad:=⟨b,0,none⟩) (k:=0) (L:=[aC s]) (v:=aC s) (.fact fun w hw=>hw) (fun _=>rfl) rfl ?_)
 conv=>whnf
 repeat (refine aa.of ?_;conv=>whnf)
 refine aj.ah (ai.fL (l:=e.1) (m:=s) ?_)
 conv=>whnf
 repeat (refine aa.of ?_;conv=>whnf)
 exact⟨_,aq.refl _,rfl⟩
theorem qi (T:Tree) (hT:T.Ok) (X:Value) (bt bm:Nat) (n:Nat) (hn:n≤1000000) (s:List UInt8) :
 af Tryz.prog 68 [.pointer (some ⟨bt,0,none⟩),.int .i64 (n:Int),aC s] (bU T X bt bm) (fc (T.find n s).1 (T.find n s).2):=by
 have hm1:(dv X bm T.K 32)[1]? = some (.map (some bm)):=rfl
 refine af.aF ab Tryz.func68 rfl (by decide) (n:=Tryz.f68.ntmps - 3) rfl rfl fun w0 av=>?_
 have hlen:=hT.len n
 have hhd:=hT.hd n
 unfold bU
 generalize dv X bm T.K 32=C at *
 obtain⟨r,hr⟩ : ∃ r,r=T.find n s:=⟨_,rfl⟩
 rw[← hr]
 unfold Tree.find at hr
 conv=>whnf
 repeat (refine aa.of ?_;conv=>whnf)
 intro b5
 conv=>whnf
 repeat (refine aa.of ?_;conv=>whnf)
 refine aj.ah (ai.bS ab (t:=114) rfl rfl (ad:=⟨bt,0,none⟩) (k:=1) (L:=C) (v:=.map (some bm)) (.fact fun w hw=>hw.1) (fun _=>rfl) hm1 ?_)
 conv=>whnf
 repeat (refine aa.of ?_;conv=>whnf)
 by_cases hmem:n∈T.dl
 · rw[if_pos hmem] at hr
   refine aj.ah (ai.AA ab (t:=114) rfl rfl rfl rfl (df.fact fun w hw=>hw.2.1) rfl (T.ld T.dl) (v:=.slice (T.H n).a 8 (T.H n).c) T.qN (T.wz hmem) fun ok hok=>?_)
   conv=>whnf
   repeat (refine aa.of ?_;conv=>whnf)
   refine aH.no (by subst hok;rfl) ?_
   have hix:=jS 120 (fun w=>aB w (some ⟨b5,0,none⟩) [aC s]) (fun e=>e.1 == s) (.pointer (some ⟨b5,0,none⟩)) (T.E n) (T.H n) (by rw[hlen];exact hhd) (by omega) (fun e _=>sw e b5 s)
   rw[hlen] at hix
   conv=>whnf
   repeat (refine aa.of ?_;conv=>whnf)
   refine ak.look hix (Loc.and (Loc.row _ _) (Loc.row _ _)) (fun w hst=>⟨hst.now.2.2 n hmem,bp.box 0 rfl (by simp) rfl w hst⟩) ?_
   have hfd:(T.E n).findIdx? (fun e=>e.1 == s)=db (T.E n) s:=rfl
   rw[hfd]
   cases hf:db (T.E n) s with
   | none=>
    rw[hf] at hr
    obtain⟨z,hz⟩ : ∃ z:Int,z=ib none:=⟨_,rfl⟩
    rw[← hz,hr]
    conv=>whnf
    repeat (refine aa.of ?_;conv=>whnf)
    refine aH.yes (by subst hz;simp[au,ib]) ?_
    conv=>whnf
    repeat (refine aa.of ?_;conv=>whnf)
    exact⟨_,aq.refl _,rfl⟩
   | some q=>
    have hq:=fH hf
    rw[hf] at hr
    dsimp only at hr
    rw[List.getElem?_eq_getElem hq] at hr
    obtain⟨z,hz⟩ : ∃ z:Int,z=ib (some q):=⟨_,rfl⟩
    rw[← hz]
    have hz:z=(q:Int):=hz
    rw[hr]
    conv=>whnf
    repeat (refine aa.of ?_;conv=>whnf)
    refine aH.no (by subst hz;simp[au]) ?_
    conv=>whnf
    repeat (refine aa.of ?_;conv=>whnf)
    refine aj.ah (ai.index ab (t:=111) rfl rfl rfl (by omega) (by omega) hhd.nil fun ad2 had2=>?_)
    conv=>whnf
    repeat (refine aa.of ?_;conv=>whnf)
    refine aj.ah (ai.bS ab (t:=3) rfl rfl (ad:=ad2) (k:=2*q+1) (L:=bV (T.E n)) (v:=aE (T.E n)[q].2) (.fact fun w hw=>had2 ▸ hw.2.2 n hmem) (fun hs=>by rw[Addr.dE hs,hz];congr 1;simp;try omega) (dz hq).2 ?_)
    conv=>whnf
    repeat (refine aa.of ?_;conv=>whnf)
    exact⟨_,aq.refl _,rfl⟩
 · rw[if_neg hmem] at hr
   rw[hr]
   refine aj.ah (ai.AQ ab (t:=114) rfl rfl rfl rfl (df.fact fun w hw=>hw.2.1) rfl (T.ld T.dl) (T.zA hmem) (z:=.slice none 0 0) rfl fun ok hok=>?_)
   conv=>whnf
   repeat (refine aa.of ?_;conv=>whnf)
   refine aH.yes (by subst hok;rfl) ?_
   conv=>whnf
   repeat (refine aa.of ?_;conv=>whnf)
   exact⟨_,aq.refl _,rfl⟩
theorem oQ {T:Tree} (hT:T.Ok) (n:Nat) (s:List UInt8):(T.find n s).1≤1000000:=by
 unfold Tree.find
 split
 · split
   · exact Nat.zero_le _
   · rename_i k hk
     have hq:=fH hk
     rw[List.getElem?_eq_getElem hq]
     exact hT.node n _ (List.getElem_mem hq)
 · exact Nat.zero_le _
theorem mC (T:Tree) (hT:T.Ok) (X:Value) (bt bm:Nat) (k:Hd) (l:List (List UInt8)) (hk:k.Ok l.length) (hll:l.length≤1000000) :
 af Tryz.prog 67 [.pointer (some ⟨bt,0,none⟩),k.v l.length] (fun w=>bU T X bt bm w∧b_ w k l) (fc (T.walk l 0).1 (T.walk l 0).2):=by
 obtain⟨F0,hF0⟩ : ∃ x,x=T.walk l 0:=⟨_,rfl⟩
 rw[← hF0]
 refine af.aF ab Tryz.func67 rfl (by decide) (n:=Tryz.f67.ntmps - 2) rfl rfl fun w0 av=>?_
 conv=>whnf
 refine aI.loop ab (ι:=Nat×Nat) ([6,7,8,9,10]++List.range' 13 16) (fun x=>(x.1≤l.length∧x.2≤1000000)∧F0=T.walk (l.drop x.1) x.2)
  (fun x=>[(6,.v (.int .i64 (x.2:Int))),(13,.v (.int .i64 (x.1:Int)))]) (fun _=>[]) (fun x=>⟨fun w=>bU T X bt bm w∧b_ w k l,[]⟩)
  (fun x=>l.length - x.1) (0,0) ⟨⟨Nat.zero_le _,Nat.zero_le _⟩,hF0⟩ ?_ rfl (aq.refl _) fun x hx=>?_
 · conv=>whnf
   repeat (first | exact aw.nil | refine aw.any ?_ | refine aw.cons ?_)
 obtain⟨i,n⟩:=x
 obtain⟨⟨hi,hn⟩,hfo⟩:=hx
 dsimp only at hi hn hfo ⊢
 conv=>whnf
 refine aH.split (fun hlt=>?_) (fun hlt=>?_)
 · have hlt':i<l.length:=by
    simp only[au,decide_eq_true_eq] at hlt
    omega
   have hdr:l.drop i=l[i]::l.drop (i+1):=List.drop_eq_getElem_cons hlt'
   rw[hdr] at hfo
   unfold Tree.walk at hfo
   have hfs:=qi T hT X bt bm n hn l[i]
   have hsm:=oQ hT n l[i]
   generalize T.find n l[i]=r at *
   obtain⟨m,e⟩:=r
   dsimp only at hfo hfs hsm
   conv=>whnf
   repeat (refine aa.of ?_;conv=>whnf)
   refine aj.ah (ai.index ab (t:=51) rfl rfl rfl (by omega) (by omega) hk.nil fun ad had=>?_)
   conv=>whnf
   repeat (refine aa.of ?_;conv=>whnf)
   refine aj.ah (ai.load ab (t:=9) rfl rfl (ad:=ad) (k:=i) (L:=l.map aC) (v:=aC l[i]) (.fact fun w hw=>had ▸ hw.2) (by simp) (by simp[hlt']) ?_)
   conv=>whnf
   repeat (refine aa.of ?_;conv=>whnf)
   refine ak.val hfs (fun w hw=>hw.1) (fun v D hv=>?_)
   unfold fc at hv
   subst hv
   conv=>whnf
   repeat (refine aa.of ?_;conv=>whnf)
   refine aH.split (fun he=>?_) (fun he=>?_)
   · have he':e≠0:=by
      simp[ar] at he
      omega
     rw[if_pos he'] at hfo
     rw[hfo]
     conv=>whnf
     repeat (refine aa.of ?_;conv=>whnf)
     exact⟨_,aq.refl _,rfl⟩
   · have he':e=0:=by
      simp[ar] at he
      omega
     rw[if_neg (by omega)] at hfo
     conv=>whnf
     repeat (refine aa.of ?_;conv=>whnf)
     refine⟨(i+1,m),⟨⟨⟨hlt',hsm⟩,hfo⟩,by dsimp only;omega⟩,?_,?_,aq.refl _⟩
     · conv=>whnf
       refine⟨?_,rfl⟩
       repeat (first | exact aw.nil | refine aw.any ?_ | refine aw.cons ?_ | refine aw.eq (by rw[wrap_i64 (by omega)];rfl) ?_)
     · conv=>whnf
       exact trivial
 · have hie:i=l.length:=by
    simp only[au,decide_eq_false_iff_not] at hlt
    omega
   subst hie
   rw[List.drop_length] at hfo
   rw[hfo]
   conv=>whnf
   exact⟨_,aq.refl _,rfl⟩
end Go.Proofs.YtfeoedkmndkbjaaGreatDoor
namespace Go.Proofs.YtfeoedkmndkbjaaGreatDoor
open Go Go.Sx
set_option maxRecDepth 100000
set_option maxHeartbeats 4000000
set_option linter.unusedVariables false
set_option linter.unusedSimpArgs false
noncomputable def Tree.es (T:Tree) (n:Nat):List En:=if n∈T.dl then T.E n else []
noncomputable def Tree.V (T:Tree):Nat→Nat→List UInt8→List (List UInt8×Nat)
 | 0,_,_=>[]
 | f+1,n,p=>(p,n)::(T.es n).flatMap fun e=>if e.1 = [] then [] else T.V f e.2 (p ++ [47]++e.1)
def Tree.low (T:Tree):Nat→Nat→Prop
 | 0,_=>False
 | f+1,n=>∀ e∈T.es n,e.1≠[]→T.low f e.2
section
variable {S:Type}
def Steps (step:S→List UInt8→Nat→S→Prop):List (List UInt8×Nat)→S→S→Prop
 | [],s,s'=>s'=s
 | (p,n)::l,s,s'=>∃ s1,step s p n s1∧Steps step l s1 s'
theorem Steps.append {step:S→List UInt8→Nat→S→Prop} : ∀ {l m:List (List UInt8×Nat)} {s s1 s2:S},Steps step l s s1→Steps step m s1 s2→Steps step (l++m) s s2
 | [],m,s,s1,s2,h,k=>by
  cases h
  exact k
 | (p,n)::l,m,s,s1,s2,⟨q,h1,h2⟩,k=>⟨q,h1,Steps.append h2 k⟩
variable (T:Tree) (hT:T.Ok) (hname : ∀ n,∀ e∈T.E n,e.1.length≤14) (X:Value) (bt bm:Nat) (g:FuncId) (u:Value) (rows:S→List (Nat×Row)) (hrows : ∀ s,∀ r∈rows s,CM r.2) (I:Nat→S→Prop) (Pre:World→Prop)
 (hPre : ∀ w,Pre w→bU T X bt bm w) (step:S→List UInt8→Nat→S→Prop)
 (hcb : ∀ (k:Nat) (s:S) (p:List UInt8) (n:Nat),I (k+1) s→p.length≤1000000→n≤1000000→bM Tryz.prog g [aC p,.int .i64 (n:Int),u] (rows s) Pre (fun v F=>∃ s',I k s'∧step s p n s'∧F=⟨fun _=>True,rows s'⟩))
include hT hname hrows hPre hcb
theorem yA : ∀ (f n:Nat) (p:List UInt8) (s:S) (k:Nat),T.low f n→I ((T.V f n p).length+k) s→n≤1000000→p.length+15*f≤1000000→
 bM Tryz.prog 132 [.pointer (some ⟨bt,0,none⟩),.int .i64 (n:Int),aC p,.func (.func g) #[] #[u]] (rows s) Pre (fun v F=>∃ s',I k s'∧Steps step (T.V f n p) s s'∧F=⟨fun _=>True,rows s'⟩):=by
 intro f
 induction f with
 | zero=>exact fun n p s k h _ _ _=>h.elim
 | succ f ih=>
  intro n p s k hlow hI hn hp
  have hm1:(dv X bm T.K 32)[1]? = some (.map (some bm)):=rfl
  have hP1 : ∀ w,Pre w→aB w (some ⟨bt,0,none⟩) (dv X bm T.K 32):=fun w hw=>(hPre w hw).1
  generalize dv X bm T.K 32=C at *
  refine bM.aF ab Tryz.func132 rfl (by decide) (n:=Tryz.f132.ntmps - 4) rfl rfl (hrows s) fun w0 av=>?_
  conv=>whnf
  repeat (refine aa.of ?_;conv=>whnf)
  refine ak.c_ (F':=⟨Pre,[]++rows s ++ []⟩) (aq.of_le ⟨by simp,fun w h=>h⟩) ?_
  obtain⟨W,hW⟩ : ∃ W,W=(T.es n).flatMap fun e=>if e.1 = [] then [] else T.V f e.2 (p ++ [47]++e.1):=⟨_,rfl⟩
  have hV:T.V (f+1) n p=(p,n)::W:=by rw[hW];rfl
  rw[hV,List.length_cons,show W.length+1+k=W.length+k+1 by omega] at hI
  rw[hV]
  refine ak.rows (hcb _ s p n hI (by omega) hn) (fun w hw=>hw) (fun v F hv=>?_)
  obtain⟨s1,hI1,hs1,rfl⟩:=hv
  have hlow' : ∀ e∈T.es n,e.1≠[]→T.low f e.2:=hlow
  have hnode : ∀ e∈T.es n,e.2≤1000000∧e.1.length≤14:=fun e he=>by
   unfold Tree.es at he
   split at he
   · exact⟨hT.node n e he,hname n e he⟩
   · cases he
  conv=>whnf
  repeat (refine aa.of ?_;conv=>whnf)
  refine aj.ah (ai.bS ab (t:=114) rfl rfl (ad:=⟨bt,0,none⟩) (k:=1) (L:=C) (v:=.map (some bm)) (.fact fun w hw=>hP1 w hw.1) (fun _=>rfl) hm1 ?_)
  conv=>whnf
  repeat (refine aa.of ?_;conv=>whnf)
  obtain⟨h,hh,hrow,hval⟩ : ∃ h:Hd,h.Ok (T.es n).length∧(∀ w,Pre w→aB w h.a (bV (T.es n)))∧((n∈T.dl∧h.v (T.es n).length = .slice (T.H n).a 8 (T.H n).c)∨(n ∉ T.dl∧h.v (T.es n).length = .slice none 0 0)):=by
   by_cases hmem:n∈T.dl
   · have he:T.es n=T.E n:=if_pos hmem
     refine⟨T.H n,by rw[he,hT.len];exact hT.hd n,fun w hw=>by rw[he];exact(hPre w hw).2.2 n hmem,.inl ⟨hmem,by rw[he,hT.len]⟩⟩
   · have he:T.es n = []:=if_neg hmem
     exact⟨Hd.nil,by rw[he];exact Hd.dq,fun w hw=>by rw[he];exact aB.xO,.inr ⟨hmem,by rw[he];rfl⟩⟩
  have hlook : ∀ {K:Value→Prop},K (h.v (T.es n).length)→ai Tryz.prog w0 (fun b _=>sI (rows s) b) av (Instr.lookup 114 (.map (some bm)) (.int .i64 (n:Int)) false) [] [] ⟨fun w=>Pre w∧True,[]++rows s1 ++ []⟩ K:=by
   intro K hK
   rcases hval with⟨hmem,hval⟩ | ⟨hmem,hval⟩
   · rw[hval] at hK
     exact ai.eg ab (t:=114) rfl rfl rfl rfl (df.fact fun w hw=>(hPre w hw.1).2.1) rfl (T.ld T.dl) (v:=.slice (T.H n).a 8 (T.H n).c) T.qN (T.wz hmem) hK
   · rw[hval] at hK
     exact ai.iD ab (t:=114) rfl rfl rfl rfl (df.fact fun w hw=>(hPre w hw.1).2.1) rfl (T.ld T.dl) (T.zA hmem) (z:=.slice none 0 0) rfl hK
  refine aj.ah (hlook ?_)
  clear hlook hval
  have hes8:(T.es n).length≤8:=by
   unfold Tree.es
   split
   · rw[hT.len]
     exact Nat.le_refl _
   · exact Nat.zero_le _
  generalize T.es n=es at *
  conv=>whnf
  repeat (refine aa.of ?_;conv=>whnf)
  refine aI.loop ab (ι:=Nat×S) ([9]++List.range' 21 18) (fun x=>x.1≤es.length∧I (((es.drop x.1).flatMap fun e=>if e.1 = [] then [] else T.V f e.2 (p ++ [47]++e.1)).length+k) x.2∧Steps step ((es.take x.1).flatMap fun e=>if e.1 = [] then [] else T.V f e.2 (p ++ [47]++e.1)) s1 x.2)
   (fun x=>[(21,.v (.int .i64 (x.1:Int)))]) (fun _=>[]) (fun x=>⟨Pre,rows x.2⟩)
   (fun x=>es.length - x.1) (0,s1) ⟨Nat.zero_le _,(by dsimp only;rw[List.drop_zero,← hW];exact hI1),rfl⟩ ?_ rfl (aq.of_le ⟨by simp,fun w hw=>hw.1⟩) fun x hx=>?_
  · conv=>whnf
    repeat (first | exact aw.nil | refine aw.any ?_ | refine aw.cons ?_)
  obtain⟨j,s2⟩:=x
  obtain⟨hj,hI2,hst⟩:=hx
  dsimp only at hj hI2 hst ⊢
  conv=>whnf
  repeat (refine aa.of ?_;conv=>whnf)
  refine aH.split (fun hlt=>?_) (fun hlt=>?_)
  · have hlt':j<es.length:=by
     simp only[au,decide_eq_true_eq] at hlt
     omega
    have htk:es.take (j+1)=es.take j ++ [es[j]]:=List.take_succ_eq_append_getElem hlt'
    rw[List.drop_eq_getElem_cons hlt',List.flatMap_cons,List.length_append,Nat.add_assoc] at hI2
    obtain⟨hnd,hnl⟩:=hnode _ (List.getElem_mem hlt')
    have hlo:=hlow' _ (List.getElem_mem hlt')
    conv=>whnf
    repeat (refine aa.of ?_;conv=>whnf)
    refine aj.ah (ai.index ab (t:=111) rfl rfl rfl (by omega) (by omega) hh.nil fun ad had=>?_)
    conv=>whnf
    repeat (refine aa.of ?_;conv=>whnf)
    refine aj.ah (ai.kC ab (t:=113) rfl rfl (ad:=ad) (k:=2*j) (L:=bV es) (m:=gQ es[j]) (.fact fun w hw=>had ▸ hrow w hw) (by congr 1;show Int.toNat (j:Int)*2=_;rw[Int.toNat_natCast];omega) (gn hlt') rfl ?_)
    generalize hej:es[j]=e at *
    obtain⟨nm,nd⟩:=e
    dsimp only at hnd hnl hlo hI2
    conv=>whnf
    repeat (refine aa.of ?_;conv=>whnf)
    intro b9
    conv=>whnf
    repeat (refine aa.of ?_;conv=>whnf)
    refine aj.ah (ai.ph (l:=nm) (m:=[]) ?_)
    conv=>whnf
    repeat (refine aa.of ?_;conv=>whnf)
    refine aH.split (fun hne=>?_) (fun hne=>?_)
    · have hne':nm≠[]:=by simpa using hne
      conv=>whnf
      repeat (refine aa.of ?_;conv=>whnf)
      refine aj.ah (ai.oz (l:=p) (m:=[47]) (by simp;omega) ?_)
      conv=>whnf
      repeat (refine aa.of ?_;conv=>whnf)
      refine aj.ah (ai.oz (l:=p ++ [47]) (m:=nm) (by simp;omega) ?_)
      conv=>whnf
      repeat (refine aa.of ?_;conv=>whnf)
      refine ak.c_ (F':=⟨Pre,[]++rows s2 ++ []⟩) (aq.of_le ⟨by simp,fun w h=>h⟩) ?_
      rw[if_neg hne'] at hI2
      refine ak.rows (ih nd (p ++ [47]++nm) s2 _ (hlo hne') hI2 hnd (by simp;omega)) (fun w hw=>hw) (fun v F hv=>?_)
      obtain⟨s3,hI3,hs3,rfl⟩:=hv
      conv=>whnf
      repeat (refine aa.of ?_;conv=>whnf)
      refine⟨(j+1,s3),⟨⟨hlt',hI3,?_⟩,by dsimp only;omega⟩,?_,?_,aq.of_le ⟨by simp,fun w hw=>hw.1⟩⟩
      · dsimp only
        rw[htk,List.flatMap_append]
        refine Steps.append hst ?_
        simp only[List.flatMap_cons,List.flatMap_nil,List.append_nil]
        rw[if_neg hne']
        exact hs3
      · conv=>whnf
        refine⟨?_,rfl⟩
        repeat (first | exact aw.nil | refine aw.any ?_ | refine aw.cons ?_ | refine aw.eq (by rw[wrap_i64 (by omega)];rfl) ?_)
      · conv=>whnf
        exact trivial
    · have hne':nm = []:=by simpa using hne
      conv=>whnf
      repeat (refine aa.of ?_;conv=>whnf)
      rw[if_pos hne',List.length_nil,Nat.zero_add] at hI2
      refine⟨(j+1,s2),⟨⟨hlt',hI2,?_⟩,by dsimp only;omega⟩,?_,?_,aq.refl _⟩
      · dsimp only
        rw[htk,List.flatMap_append]
        refine Steps.append hst ?_
        simp only[List.flatMap_cons,List.flatMap_nil,List.append_nil]
        rw[if_pos hne']
        rfl
      · conv=>whnf
        refine⟨?_,rfl⟩
        repeat (first | exact aw.nil | refine aw.any ?_ | refine aw.cons ?_ | refine aw.eq (by rw[wrap_i64 (by omega)];rfl) ?_)
      · conv=>whnf
        exact trivial
  · have hje:j=es.length:=by
     simp only[au,decide_eq_false_iff_not] at hlt
     omega
    subst hje
    rw[List.take_length,← hW] at hst
    rw[List.drop_length,List.flatMap_nil,List.length_nil,Nat.zero_add] at hI2
    conv=>whnf
    repeat (refine aa.of ?_;conv=>whnf)
    exact⟨⟨fun _=>True,rows s2⟩,aq.of_le ⟨List.Sublist.refl _,fun w _=>trivial⟩,s2,hI2,⟨s1,hs1,hst⟩,rfl⟩
end
end Go.Proofs.YtfeoedkmndkbjaaGreatDoor
namespace Go.Proofs.YtfeoedkmndkbjaaGreatDoor
set_option linter.unusedVariables false
set_option linter.unusedSimpArgs false
def cM (ch:Nat→List Nat):Nat→Nat→List Nat
 | 0,_=>[]
 | f+1,n=>n::(ch n).flatMap (cM ch f)
def Bu (ch:Nat→List Nat):Nat→Nat→Prop
 | 0,_=>False
 | f+1,n=>∀ c∈ch n,Bu ch f c
structure tU (ch:Nat→List Nat):Prop where
 nd : ∀ n,(ch n).Nodup
 par : ∀ n m x,x∈ch n→x∈ch m→n=m
 root : ∀ n,0 ∉ ch n
 lt : ∀ n x,x∈ch n→x<32
theorem kM : ∀ (n:Nat) (l:List Nat),l.Nodup→(∀ x∈l,x<n)→l.length≤n
 | 0,l,_,h=>by
  cases l with
  | nil=>exact Nat.le_refl _
  | cons x l=>exact absurd (h x (List.mem_cons_self ..)) (by omega)
 | n+1,l,hn,h=>by
  have h1:=kM n (l.filter (·≠n)) (hn.sublist List.filter_sublist) fun x hx=>by
   obtain⟨h2,h3⟩:=List.mem_filter.1 hx
   have:=h x h2
   have h3:x≠n:=by simpa using h3
   omega
  have h2 : ∀ (l:List Nat),l.Nodup→l.length≤(l.filter (·≠n)).length+1:=by
   intro l
   induction l with
   | nil=>intro _;simp
   | cons a l ih=>
    intro hl
    obtain⟨ha,hl⟩:=List.nodup_cons.1 hl
    by_cases hq:a=n
    · subst hq
      have:l.filter (·≠a)=l:=List.filter_eq_self.2 fun x hx=>by
       have:x≠a:=fun e=>ha (e ▸ hx)
       simpa using this
      rw[List.filter_cons_of_neg (by simp),this]
      simp
    · rw[List.filter_cons_of_pos (by simpa using hq)]
      have:=ih hl
      simp only[List.length_cons]
      omega
  have:=h2 l hn
  omega
inductive gC (ch:Nat→List Nat):List Nat→Prop
 | root:gC ch [0]
 | step {n c:Nat} {p:List Nat}:gC ch (n::p)→c∈ch n→gC ch (c::n::p)
section
variable {ch:Nat→List Nat}
theorem gC.props (hu:tU ch) {l:List Nat} (h:gC ch l) : ∃ n p,l=n::p∧l.Nodup∧(∀ y∈l,y<32)∧∀ y∈l,y=0∨∃ z∈p,y∈ch z:=by
 induction h with
 | root=>exact⟨0,[],rfl,by simp,by simp,by simp⟩
 | @step n c p h hc ih=>
  obtain⟨n',p',he,h1,h2,h3⟩:=ih
  cases he
  have hcn:c ∉ n::p:=fun hm=>by
   rcases h3 c hm with h5 | ⟨z,hz,h5⟩
   · subst h5
     exact hu.root _ hc
   · have:=hu.par _ _ _ hc h5
     subst this
     exact(List.nodup_cons.1 h1).1 hz
  refine⟨c,n::p,rfl,List.nodup_cons.2 ⟨hcn,h1⟩,?_,?_⟩
  · intro y hy
    rcases List.mem_cons.1 hy with rfl | hy
    · exact hu.lt _ _ hc
    · exact h2 y hy
  · intro y hy
    rcases List.mem_cons.1 hy with rfl | hy
    · exact .inr ⟨n,List.mem_cons_self ..,hc⟩
    · rcases h3 y hy with h5 | ⟨z,hz,h5⟩
      · exact .inl h5
      · exact .inr ⟨z,List.mem_cons_of_mem _ hz,h5⟩
theorem gC.nodup (hu:tU ch) {l:List Nat} (h:gC ch l):l.Nodup:=by
 obtain⟨n,p,-,h1,-⟩:=h.props hu
 exact h1
theorem gC.low (hu:tU ch) : ∀ (f:Nat) {n:Nat} {p:List Nat},gC ch (n::p)→33≤(n::p).length+f→Bu ch f n
 | 0,n,p,h,hl=>by
  obtain⟨n',p',he,h1,h2,h3⟩:=h.props hu
  have:=kM 32 _ h1 h2
  omega
 | f+1,n,p,h,hl=>fun c hc=>gC.low hu f (h.step hc) (by simp only[List.length_cons] at hl ⊢;omega)
theorem ni (hu:tU ch):Bu ch 33 0:=gC.low hu 33 .root (by simp)
theorem gC.under (hu:tU ch) : ∀ (f:Nat) {n x:Nat} {p:List Nat},gC ch (n::p)→x∈cM ch f n→x=n∨x ∉ n::p
 | 0,n,x,p,h,hx=>by cases hx
 | f+1,n,x,p,h,hx=>by
  unfold cM at hx
  rcases List.mem_cons.1 hx with hx | hx
  · exact .inl hx
  · obtain⟨c,hc,hx⟩:=List.mem_flatMap.1 hx
    have h2:=h.step hc
    rcases h2.under hu f hx with h5 | h5
    · subst h5
      exact .inr (List.nodup_cons.1 (h2.nodup hu)).1
    · exact .inr fun h6=>h5 (List.mem_cons_of_mem _ h6)
theorem yQ : ∀ (f:Nat) {n x:Nat},x∈cM ch f n→x=n∨∃ y∈cM ch f n,x∈ch y
 | 0,n,x,hx=>by cases hx
 | f+1,n,x,hx=>by
  unfold cM at hx
  rcases List.mem_cons.1 hx with hx | hx
  · exact .inl hx
  · obtain⟨c,hc,hx⟩:=List.mem_flatMap.1 hx
    rcases yQ f hx with h5 | ⟨y,h5,h6⟩
    · subst h5
      exact .inr ⟨n,by unfold cM;exact List.mem_cons_self ..,hc⟩
    · exact .inr ⟨y,by unfold cM;exact List.mem_cons_of_mem _ (List.mem_flatMap.2 ⟨c,hc,h5⟩),h6⟩
def xI (ch:Nat→List Nat):Nat→Nat→List Nat
 | 0,n=>[n]
 | k+1,n=>(ch n).flatMap (xI ch k)
theorem lk : ∀ (k:Nat) {n x:Nat},x∈xI ch (k+1) n→∃ y∈xI ch k n,x∈ch y
 | 0,n,x,hx=>by
  obtain⟨c,hc,hx⟩:=List.mem_flatMap.1 hx
  obtain rfl:x=c:=by simpa [xI] using hx
  exact⟨n,by simp[xI],hc⟩
 | k+1,n,x,hx=>by
  obtain⟨c,hc,hx⟩:=List.mem_flatMap.1 hx
  obtain⟨y,hy,h⟩:=lk k hx
  exact⟨y,List.mem_flatMap.2 ⟨c,hc,hy⟩,h⟩
theorem pP : ∀ (f:Nat) {n x:Nat},x∈cM ch f n→∃ k,x∈xI ch k n
 | 0,n,x,hx=>by cases hx
 | f+1,n,x,hx=>by
  unfold cM at hx
  rcases List.mem_cons.1 hx with hx | hx
  · exact⟨0,by simp[xI,hx]⟩
  · obtain⟨c,hc,hx⟩:=List.mem_flatMap.1 hx
    obtain⟨k,hk⟩:=pP f hx
    exact⟨k+1,List.mem_flatMap.2 ⟨c,hc,hk⟩⟩
theorem y4 : ∀ (k:Nat) {n x:Nat},x∈xI ch k n→x∈cM ch (k+1) n
 | 0,n,x,hx=>by
  obtain rfl:x=n:=by simpa [xI] using hx
  unfold cM
  exact List.mem_cons_self ..
 | k+1,n,x,hx=>by
  obtain⟨c,hc,hx⟩:=List.mem_flatMap.1 hx
  unfold cM
  exact List.mem_cons_of_mem _ (List.mem_flatMap.2 ⟨c,hc,y4 k hx⟩)
theorem BG (hu:tU ch) {n c1 c2:Nat} {p:List Nat} (hn:gC ch (n::p)) (h1:c1∈ch n) (h2:c2∈ch n) (hne:c1≠c2) :
 ∀ (k l:Nat) (x:Nat),x∈xI ch k c1→x∈xI ch l c2→False:=by
 have hno : ∀ c,c∈ch n→∀ k,n ∉ xI ch k c:=fun c hc k hk=>by
  have hs:=hn.step hc
  rcases hs.under hu (k+1) (y4 k hk) with h5 | h5
  · subst h5
    exact(List.nodup_cons.1 (hs.nodup hu)).1 (List.mem_cons_self ..)
  · exact h5 (List.mem_cons_of_mem _ (List.mem_cons_self ..))
 intro k
 induction k with
 | zero=>
  intro l x hx hy
  obtain rfl:x=c1:=by simpa [xI] using hx
  cases l with
  | zero=>
   have:x=c2:=by simpa [xI] using hy
   exact hne this
  | succ l=>
   obtain⟨y,hy1,hy2⟩:=lk l hy
   have:=hu.par _ _ _ h1 hy2
   subst this
   exact hno c2 h2 l hy1
 | succ k ih=>
  intro l x hx hy
  obtain⟨z,hz1,hz2⟩:=lk k hx
  cases l with
  | zero=>
   obtain rfl:x=c2:=by simpa [xI] using hy
   have:=hu.par _ _ _ h2 hz2
   subst this
   exact hno c1 h1 k hz1
  | succ l=>
   obtain⟨y,hy1,hy2⟩:=lk l hy
   have:=hu.par _ _ _ hy2 hz2
   subst this
   exact ih l y hz1 hy1
theorem sY (hu:tU ch) : ∀ (f:Nat) {n:Nat} {p:List Nat},gC ch (n::p)→(cM ch f n).Nodup
 | 0,n,p,h=>List.nodup_nil
 | f+1,n,p,h=>by
  unfold cM
  rw[List.nodup_cons]
  constructor
  · intro hm
    obtain⟨c,hc,hx⟩:=List.mem_flatMap.1 hm
    have hs:=h.step hc
    rcases hs.under hu f hx with h5 | h5
    · subst h5
      exact(List.nodup_cons.1 (hs.nodup hu)).1 (List.mem_cons_self ..)
    · exact h5 (List.mem_cons_of_mem _ (List.mem_cons_self ..))
  · show List.Pairwise _ _
    rw[List.pairwise_flatMap]
    refine⟨fun c hc=>sY hu f (h.step hc),?_⟩
    refine(hu.nd n).imp_of_mem fun {c1 c2} h1 h2 hne x hx y hy hxy=>?_
    subst hxy
    obtain⟨k,hk⟩:=pP f hx
    obtain⟨l,hl⟩:=pP f hy
    exact BG hu h h1 h2 hne k l x hk hl
theorem qF : ∀ (f:Nat) {n:Nat},Bu ch f n→(cM ch f n).Perm (n::(cM ch f n).flatMap ch)
 | 0,n,h=>h.elim
 | f+1,n,h=>by
  have hl : ∀ l:List Nat,(∀ c∈l,Bu ch f c)→(l.flatMap (cM ch f)).Perm (l++(l.flatMap (cM ch f)).flatMap ch):=by
   intro l
   induction l with
   | nil=>intro _;exact List.Perm.refl _
   | cons a l ih=>
    intro hl
    have h1:=qF f (hl a (List.mem_cons_self ..))
    have h2:=ih fun c hc=>hl c (List.mem_cons_of_mem _ hc)
    rw[List.flatMap_cons,List.flatMap_append,List.cons_append]
    refine(h1.append h2).trans ?_
    rw[List.cons_append]
    refine List.Perm.cons _ ?_
    rw[← List.append_assoc,← List.append_assoc]
    exact List.Perm.append_right _ List.perm_append_comm
  unfold cM
  refine List.Perm.cons _ ?_
  rw[List.flatMap_cons]
  exact hl _ h
end
end Go.Proofs.YtfeoedkmndkbjaaGreatDoor
namespace Go.Proofs.YtfeoedkmndkbjaaGreatDoor
open Go Go.Sx
set_option maxRecDepth 100000
set_option maxHeartbeats 4000000
set_option linter.unusedVariables false
set_option linter.unusedSimpArgs false
def nodes (l:List En):List Nat:=(l.filter (fun e=>e.1≠[])).map (·.2)
noncomputable def Tree.ch (T:Tree) (n:Nat):List Nat:=nodes (T.es n)
structure Tree.vZ (T:Tree):Prop where
 ok : ∀ n∈T.dl,∀ x∈T.ch n,x≠0∧x<32∧T.K x≠0
 nd : ∀ n∈T.dl,(T.ch n).Nodup
 one : ∀ n∈T.dl,∀ m∈T.dl,∀ x,x∈T.ch n→x∈T.ch m→n=m
structure Tree.Good (T:Tree):Prop where
 fine:T.vZ
 all : ∀ n,n<32→T.K n≠0→∃ p,(p,n)∈T.V 33 0 []
theorem yk (l:List En) (e:En):nodes (l ++ [e])=nodes l++if e.1 = [] then [] else [e.2]:=by
 unfold nodes
 rw[List.filter_append,List.map_append]
 congr 1
 by_cases h:e.1 = []
 · rw[if_pos h,List.filter_cons_of_neg (by simp[h])]
   rfl
 · rw[if_neg h,List.filter_cons_of_pos (by simp[h])]
   rfl
theorem Tree.kS (T:Tree) {n:Nat} (h:n∈T.dl):T.ch n=nodes (T.E n):=by
 unfold Tree.ch Tree.es
 rw[if_pos h]
theorem Tree.kE (T:Tree) {n:Nat} (h:n ∉ T.dl):T.ch n = []:=by
 unfold Tree.ch Tree.es
 rw[if_neg h]
 rfl
theorem Tree.vZ.uniq {T:Tree} (h:T.vZ):tU T.ch:=by
 have hin : ∀ n x,x∈T.ch n→n∈T.dl:=fun n x hx=>by
  refine Classical.byContradiction fun hn=>?_
  rw[T.kE hn] at hx
  cases hx
 refine⟨fun n=>?_,fun n m x h1 h2=>h.one n (hin n x h1) m (hin m x h2) x h1 h2,fun n h0=>(h.ok n (hin n 0 h0) 0 h0).1 rfl,fun n x hx=>(h.ok n (hin n x hx) x hx).2.1⟩
 by_cases hn:n∈T.dl
 · exact h.nd n hn
 · rw[T.kE hn]
   exact List.nodup_nil
theorem Tree.BO {T:Tree} : ∀ {f n:Nat},Bu T.ch f n→T.low f n
 | 0,_,h=>h.elim
 | f+1,n,h=>fun e he hne=>Tree.BO (h e.2 (List.mem_map.2 ⟨e,List.mem_filter.2 ⟨he,by simpa using hne⟩,rfl⟩))
def yt (S:List Nat) (n:Nat):List Nat:=if n∈S then S else S ++ [n]
theorem BX {S:List Nat} {n m:Nat}:m∈yt S n↔m∈S∨m=n:=by
 unfold yt
 split
 · rename_i h
   exact⟨.inl,fun h2=>h2.elim id fun e=>e ▸ h⟩
 · simp
theorem A0 (b8 br:Nat) (T:Tree) (X:Value) (bt bm:Nat) (s:List Nat) (p:List UInt8) (n:Nat) :
 bM Tryz.prog 133 [aC p,.int .i64 (n:Int),.pointer (some ⟨b8,0,none⟩)] [(br,Row.m (bF (bq s)) (bq s).length)] (fun w=>bU T X bt bm w∧aB w (some ⟨b8,0,none⟩) [.map (some br)])
  (fun v F=>∃ s',True∧s'=yt s n∧F=⟨fun _=>True,[(br,Row.m (bF (bq s')) (bq s').length)]⟩):=by
 refine bM.aF ab Tryz.func133 rfl (by decide) (n:=Tryz.f133.ntmps - 3) rfl rfl (by simp) fun w0 av=>?_
 conv=>whnf
 repeat (refine aa.of ?_;conv=>whnf)
 refine aj.ah (ai.bS ab (t:=182) rfl rfl (ad:=⟨b8,0,none⟩) (k:=0) (L:=[.map (some br)]) (v:=.map (some br)) (.fact fun w hw=>hw.2) (fun _=>rfl) rfl ?_)
 conv=>whnf
 repeat (refine aa.of ?_;conv=>whnf)
 by_cases hm:n∈s
 · have ha:yt s n=s:=if_pos hm
   refine a_.yK ab (t:=182) rfl rfl rfl rfl (r1:=[]) (r2:=[]) (l:=bq s) rfl (ed s) ⟨(aE n,.bool true),List.mem_map.2 ⟨n,hm,rfl⟩,rfl⟩ fun i u hi=>?_
   have hu:=jV _ _ hi
   subst hu
   have hse:(bq s).set i (aE n,.bool true)=bq s:=by
    obtain⟨hl,he⟩:=List.getElem?_eq_some_iff.1 hi
    rw[show(aE n,Value.bool true)=(bq s)[i] from he.symm]
    exact List.set_getElem_self hl
   rw[show(Value.int .i64 (n:Int),Value.bool true)=(aE n,.bool true) from rfl,hse]
   conv=>whnf
   repeat (refine aa.of ?_;conv=>whnf)
   exact⟨⟨fun _=>True,[(br,Row.m (bF (bq s)) (bq s).length)]⟩,aq.of_le ⟨by simp,fun w _=>trivial⟩,s,trivial,ha.symm,rfl⟩
 · have ha:yt s n=s ++ [n]:=if_neg hm
   refine a_.rA ab (t:=182) rfl rfl rfl rfl (r1:=[]) (r2:=[]) (l:=bq s) rfl (ed s) (jI hm) ?_
   rw[show(Value.int .i64 (n:Int),Value.bool true)=(aE n,.bool true) from rfl,← pk]
   conv=>whnf
   repeat (refine aa.of ?_;conv=>whnf)
   exact⟨⟨fun _=>True,[(br,Row.m (bF (bq (s ++ [n]))) (bq (s ++ [n])).length)]⟩,aq.of_le ⟨by simp,fun w _=>trivial⟩,s ++ [n],trivial,ha.symm,rfl⟩
theorem tD : ∀ {l:List (List UInt8×Nat)} {s s':List Nat},Steps (fun s _ n s'=>s'=yt s n) l s s'→∀ m,m∈s'↔m∈s∨∃ p,(p,m)∈l
 | [],s,s',h,m=>by
  cases h
  simp
 | (p,n)::l,s,s',⟨s1,h1,h2⟩,m=>by
  subst h1
  rw[tD h2 m,BX]
  simp only[List.mem_cons,Prod.mk.injEq]
  constructor
  · rintro((h | h) | ⟨q,h⟩)
    · exact .inl h
    · exact .inr ⟨p,.inl ⟨rfl,h⟩⟩
    · exact .inr ⟨q,.inr h⟩
  · rintro(h | ⟨q,⟨_,h⟩ | h⟩)
    · exact .inl (.inl h)
    · exact .inl (.inr h)
    · exact .inr ⟨q,h⟩
def eF (ns:List Nat):mJ:=ns.map fun n=>(aE n,aE 1)
theorem sV (ns:List Nat) : ∀ p∈eF ns,MapKept.IsKey (.int .i64) p.1:=by
 intro p hp
 obtain⟨n,_,rfl⟩:=List.mem_map.1 hp
 rfl
theorem wJ {ns:List Nat} {n:Nat} (h:n ∉ ns) : ∀ p∈eF ns,p.1≠aE n:=by
 intro p hp he
 obtain⟨m,hm,rfl⟩:=List.mem_map.1 hp
 exact h (m6 he ▸ hm)
theorem lE {ns:List Nat} {n i:Nat} {u:Value} (h:(eF ns)[i]? = some (aE n,u)):u=aE 1∧ns[i]? = some n:=by
 unfold eF at h
 rw[List.getElem?_map] at h
 cases hq:ns[i]? with
 | none=>rw[hq] at h;cases h
 | some m=>
  rw[hq] at h
  simp only[Option.map_some,Option.some.injEq,Prod.mk.injEq] at h
  exact⟨h.2.symm,by rw[m6 h.1]⟩
theorem yH (ns:List Nat) (n:Nat):eF (ns ++ [n])=eF ns ++ [(aE n,aE 1)]:=by simp[eF]
section
variable {P:Program} {aK:Sx.fk} {w0:World} {R:Nat→Nat→Prop} {av:Nat→Prop} {bs:List (Nat×Nat)} {cs:List (List Value)}
theorem aj.BR {ty:TypeId} {b r:Nat} {l:mJ} {D:World→Prop} {r1 r2:List (Nat×Row)} {seen:List Nat} {K:KV} (hm:df w0 R av bs cs ⟨D,r1 ++ [(r,Row.o (eH b l.length seen))]++r2⟩ b l)
 (h0:(∀ i,i<l.length→i∈seen)→∀ ok:Bool,ok=false→K (.tuple #[.bool ok]) bs cs ⟨D,r1 ++ [(r,Row.o (eH b l.length seen))]++r2⟩)
 (h1 : ∀ i k v,l[i]? = some (k,v)→i ∉ seen→∀ ok:Bool,ok=true→K (.tuple #[.bool ok,k,v]) bs cs ⟨D,r1 ++ [(r,Row.o (eH b l.length (seen ++ [i])))]++r2⟩) :
 aj P w0 R av (Instr.next (.pointer (some ⟨r,0,none⟩)) false ty) bs cs ⟨D,r1 ++ [(r,Row.o (eH b l.length seen))]++r2⟩ K:=
 aj.Dn hm (fun h=>h0 h false rfl) fun i k v h2 h3=>h1 i k v h2 h3 true rfl
end
theorem sU {l:List Nat} (h:l.Nodup) {i j:Nat} (hi:i<l.length) (hj:j<l.length) (e:l[i]=l[j]):i=j:=by
 have h:List.Pairwise _ l:=h
 rw[List.pairwise_iff_getElem] at h
 rcases Nat.lt_trichotomy i j with h5 | h5 | h5
 · exact absurd e (h i j hi hj h5)
 · exact h5
 · exact absurd e.symm (h j i hj hi h5)
noncomputable def Tree.xg (T:Tree) (seen:List Nat):List Nat:=seen.flatMap fun i=>nodes (T.E (T.dl.getD i 0))
theorem Tree.Bc (T:Tree) (seen:List Nat) (i:Nat):T.xg (seen ++ [i])=T.xg seen++nodes (T.E (T.dl.getD i 0)):=by
 simp[Tree.xg]
theorem Tree.ze {T:Tree} {i:Nat} (h:i<T.dl.length):T.dl.getD i 0=T.dl[i]∧T.dl.getD i 0∈T.dl:=by
 have:T.dl.getD i 0=T.dl[i]:=by simp[h]
 exact⟨this,this ▸ List.getElem_mem h⟩
theorem Tree.Dl {T:Tree} {seen:List Nat} (hlt : ∀ i∈seen,i<T.dl.length) (hnd:(T.xg seen).Nodup) (hok : ∀ x∈T.xg seen,x≠0∧x<32∧T.K x≠0) (hall : ∀ i,i<T.dl.length→i∈seen):T.vZ:=by
 have hch : ∀ i,i<T.dl.length→T.ch (T.dl.getD i 0)=nodes (T.E (T.dl.getD i 0)):=fun i hi=>T.kS (T.ze hi).2
 have hat : ∀ n∈T.dl,∃ i,i<T.dl.length∧T.dl.getD i 0=n:=fun n hn=>by
  obtain⟨i,hi,h⟩:=List.getElem_of_mem hn
  exact⟨i,hi,by rw[(T.ze hi).1,h]⟩
 have hp:List.Pairwise _ (T.xg seen):=hnd
 unfold Tree.xg at hp
 rw[List.pairwise_flatMap] at hp
 obtain⟨hp1,hp2⟩:=hp
 refine⟨fun n hn x hx=>?_,fun n hn=>?_,fun n hn m hm x h1 h2=>?_⟩
 · obtain⟨i,hi,rfl⟩:=hat n hn
   refine hok x (List.mem_flatMap.2 ⟨i,hall i hi,?_⟩)
   rwa [hch i hi] at hx
 · obtain⟨i,hi,rfl⟩:=hat n hn
   rw[hch i hi]
   exact hp1 i (hall i hi)
 · obtain⟨i,hi,rfl⟩:=hat n hn
   obtain⟨j,hj,rfl⟩:=hat m hm
   rw[hch i hi] at h1
   rw[hch j hj] at h2
   by_cases hij:i=j
   · rw[hij]
   exfalso
   rw[List.pairwise_iff_getElem] at hp2
   obtain⟨a,ha,ha2⟩:=List.getElem_of_mem (hall i hi)
   obtain⟨b,hb,hb2⟩:=List.getElem_of_mem (hall j hj)
   rcases Nat.lt_trichotomy a b with h | h | h
   · exact hp2 a b ha hb h x (by rw[ha2];exact h1) x (by rw[hb2];exact h2) rfl
   · subst h
     exact hij (ha2.symm.trans hb2)
   · exact hp2 b a hb ha h x (by rw[hb2];exact h2) x (by rw[ha2];exact h1) rfl
noncomputable instance (T:Tree):Decidable T.Good:=Classical.propDecidable _
noncomputable def Tree.res (T:Tree):Nat:=if T.Good then 0 else 4
theorem Tree.Cw {T:Tree} {D:World→Prop} {rs:List (Nat×Row)} (h : ¬ T.Good) : ∃ F',aq ⟨D,rs⟩ F'∧(fun(v:Value) (F:Fx)=>v=Value.int .i64 (T.res:Int)) (Value.int .i64 4) F':=by
 refine⟨_,aq.refl _,?_⟩
 unfold Tree.res
 rw[if_neg h]
 rfl
theorem rH {l:List En} {j:Nat} (hj:j<l.length):nodes (l.take (j+1))=nodes (l.take j)++if l[j].1 = [] then [] else [l[j].2]:=by
 rw[List.take_succ_eq_append_getElem hj,yk]
theorem pb {l:List En} {j:Nat} (hj:j<l.length) (hne:l[j].1≠[]) : ∃ r,nodes l=nodes (l.take j)++l[j].2::r:=by
 refine⟨nodes (l.drop (j+1)),?_⟩
 have h:=rH hj
 rw[if_neg hne] at h
 have e:nodes l=nodes (l.take (j+1))++nodes (l.drop (j+1)):=by
  conv=>lhs;rw[← List.take_append_drop (j+1) l]
  unfold nodes
  rw[List.filter_append,List.map_append]
 rw[e,h]
 simp
theorem xz (T:Tree) (hT:T.Ok) (hname : ∀ n,∀ e∈T.E n,e.1.length≤14) (X:Value) (bt bm:Nat) :
 af Tryz.prog 89 [.pointer (some ⟨bt,0,none⟩)] (bU T X bt bm) (fun v F=>v = .int .i64 (T.res:Int)):=by
 have hm1:(dv X bm T.K 32)[1]? = some (.map (some bm)):=rfl
 have hkc : ∀ m,m<32→(dv X bm T.K 32)[2+m]? = some (aE (T.K m)):=fun m hm=>r5 X bm T.K hm
 have hTA : ∀ w,bU T X bt bm w→aB w (some ⟨bt,0,none⟩) (dv X bm T.K 32):=fun w hw=>hw.1
 have hTM : ∀ w,bU T X bt bm w→jm w bm (T.kv T.dl):=fun w hw=>hw.2.1
 have hTE : ∀ w,bU T X bt bm w→∀ n∈T.dl,aB w (T.H n).a (bV (T.E n)):=fun w hw=>hw.2.2
 have hbad:=@Tree.Cw T
 generalize hres:T.res=res at *
 have hkl:(T.kv T.dl).length=T.dl.length:=by simp[Tree.kv]
 generalize hCC:dv X bm T.K 32=C at *
 refine af.aF ab Tryz.func89 rfl (by decide) (n:=Tryz.f89.ntmps - 1) rfl rfl fun w0 av=>?_
 conv=>whnf
 repeat (refine aa.of ?_;conv=>whnf)
 refine aj.kY fun bc=>?_
 conv=>whnf
 repeat (refine aa.of ?_;conv=>whnf)
 refine aj.ah (ai.bS ab (t:=114) rfl rfl (ad:=⟨bt,0,none⟩) (k:=1) (L:=C) (v:=.map (some bm)) (.fact fun w hw=>hTA w hw) (fun _=>rfl) hm1 ?_)
 conv=>whnf
 repeat (refine aa.of ?_;conv=>whnf)
 refine aj.rangeMap ab (t:=114) rfl rfl (l:=T.kv T.dl) (df.fact fun w hw=>hTM w hw) fun r=>?_
 conv=>whnf
 repeat (refine aa.of ?_;conv=>whnf)
 refine aI.loop ab (ι:=List Nat) ([5,7]++List.range' 16 42) (fun seen=>seen.Nodup∧(∀ i∈seen,i<T.dl.length)∧(T.xg seen).Nodup∧∀ x∈T.xg seen,x≠0∧x<32∧T.K x≠0)
  (fun seen=>[]) (fun _=>[]) (fun seen=>⟨bU T X bt bm,[(bc,Row.m (bF (eF (T.xg seen))) (eF (T.xg seen)).length)] ++ [(r,Row.o (eH bm (T.kv T.dl).length seen))] ++ []⟩)
  (fun seen=>T.dl.length - seen.length) [] ⟨List.nodup_nil,fun i hi=>by simp at hi,List.nodup_nil,fun x hx=>by simp[Tree.xg] at hx⟩ ?_ rfl (aq.of_le ⟨by simp[Tree.xg,eF],fun w hw=>hw⟩) fun seen hs=>?_
 · conv=>whnf
   repeat (first | exact aw.nil | refine aw.any ?_ | refine aw.cons ?_)
 obtain⟨hs1,hs2,hs3,hs4⟩:=hs
 conv=>whnf
 repeat (refine aa.of ?_;conv=>whnf)
 refine aj.BR (l:=T.kv T.dl) (df.fact fun w hw=>hTM w hw) (fun hdone ok hok=>?_) (fun i k v hik hni ok hok=>?_)
 rotate_left
 · have hil:i<T.dl.length:=by
    have:=List.getElem?_eq_some_iff.1 hik
    rw[← hkl]
    exact this.1
   obtain⟨hn1,hn2⟩:=T.ze hil
   have hkv:k=aE (T.dl.getD i 0)∧v = .slice (T.H (T.dl.getD i 0)).a 8 (T.H (T.dl.getD i 0)).c:=by
    unfold Tree.kv at hik
    rw[List.getElem?_map,List.getElem?_eq_getElem hil] at hik
    simp only[Option.map_some,Option.some.injEq,Prod.mk.injEq] at hik
    rw[hn1]
    exact⟨hik.1.symm,hik.2.symm⟩
   obtain⟨rfl,rfl⟩:=hkv
   have hgs:=T.Bc seen i
   have hchn:=T.kS hn2
   have hEl:=hT.len (T.dl.getD i 0)
   have hHd:=hT.hd (T.dl.getD i 0)
   have hTEn : ∀ w,bU T X bt bm w→aB w (T.H (T.dl.getD i 0)).a (bV (T.E (T.dl.getD i 0))):=fun w hw=>hTE w hw _ hn2
   have hnode:=hT.node (T.dl.getD i 0)
   have hslen:seen.length<T.dl.length:=by
    have h1:(seen ++ [i]).length≤T.dl.length:=kM T.dl.length (seen ++ [i]) (by
     rw[List.nodup_append]
     refine⟨hs1,by simp,fun a ha b hb e=>?_⟩
     have hb:b=i:=by simpa using hb
     subst hb e
     exact hni ha) (fun x hx=>by
     rcases List.mem_append.1 hx with h | h
     · exact hs2 x h
     · have:x=i:=by simpa using h
       omega)
    simp at h1
    omega
   have hdupE : ∀ j (hj:j<(T.E (T.dl.getD i 0)).length),(T.E (T.dl.getD i 0))[j].1≠[]→(T.E (T.dl.getD i 0))[j].2∈T.xg seen++nodes ((T.E (T.dl.getD i 0)).take j)→¬ T.Good:=fun j hj hne hm hg=>by
    obtain⟨rr,hrr⟩:=pb hj hne
    have hx:(T.E (T.dl.getD i 0))[j].2∈T.ch (T.dl.getD i 0):=by
     rw[hchn,hrr]
     simp
    rcases List.mem_append.1 hm with h5 | h5
    · obtain⟨i',hi',h6⟩:=List.mem_flatMap.1 h5
      have hi'l:=hs2 i' hi'
      have h7:=(T.ze hi'l)
      have h8:=hg.fine.one _ hn2 _ h7.2 _ hx (by rw[T.kS h7.2];exact h6)
      rw[hn1,h7.1] at h8
      have:=sU hT.nd hil hi'l h8
      subst this
      exact hni hi'
    · have:=hg.fine.nd _ hn2
      rw[hchn,hrr,List.nodup_append] at this
      exact this.2.2 _ h5 _ (List.mem_cons_self ..) rfl
   have hvalE : ∀ j (hj:j<(T.E (T.dl.getD i 0)).length),(T.E (T.dl.getD i 0))[j].1≠[]→T.Good→(T.E (T.dl.getD i 0))[j].2≠0∧(T.E (T.dl.getD i 0))[j].2<32∧T.K (T.E (T.dl.getD i 0))[j].2≠0:=fun j hj hne hg=>by
    obtain⟨rr,hrr⟩:=pb hj hne
    exact hg.fine.ok _ hn2 _ (by rw[hchn,hrr];simp)
   have hlist:(T.E (T.dl.getD i 0)).take 8=T.E (T.dl.getD i 0):=List.take_of_length_le (by omega)
   generalize T.E (T.dl.getD i 0)=E at *
   generalize T.H (T.dl.getD i 0)=H at *
   generalize T.xg seen=gs at *
   conv=>whnf
   repeat (refine aa.of ?_;conv=>whnf)
   refine aH.yes hok ?_
   conv=>whnf
   repeat (refine aa.of ?_;conv=>whnf)
   refine aj.ah (ai.Ck (i:=i) (seen:=seen) hik (df.fact fun w hw=>hTM w hw) (by simp) ?_)
   conv=>whnf
   repeat (refine aa.of ?_;conv=>whnf)
   refine aI.loop ab (ι:=Nat) ([7]++List.range' 22 36) (fun j=>j≤8∧(gs++nodes (E.take j)).Nodup∧∀ x∈gs++nodes (E.take j),x≠0∧x<32∧T.K x≠0)
    (fun j=>[(22,.v (.int .i64 (j:Int)))]) (fun _=>[]) (fun j=>⟨bU T X bt bm,[(bc,Row.m (bF (eF (gs++nodes (E.take j)))) (eF (gs++nodes (E.take j))).length)] ++ [(r,Row.o (eH bm (T.kv T.dl).length (seen ++ [i])))] ++ []⟩)
    (fun j=>8 - j) 0 ⟨Nat.zero_le _,by simpa [nodes] using hs3,by simpa [nodes] using hs4⟩ ?_ rfl (aq.of_le ⟨by simp[nodes],fun w hw=>hw⟩) fun j hj=>?_
   · conv=>whnf
     repeat (first | exact aw.nil | refine aw.any ?_ | refine aw.cons ?_)
   obtain⟨hj1,hj2,hj3⟩:=hj
   conv=>whnf
   repeat (refine aa.of ?_;conv=>whnf)
   refine aH.split (fun hlt=>?_) (fun hlt=>?_)
   · have hj8:j<8:=by
      simp only[au,decide_eq_true_eq] at hlt
      omega
     have hjE:j<E.length:=by omega
     have htk:=rH hjE
     have hdup:=hdupE j hjE
     have hval:=hvalE j hjE
     have hnj:=hnode _ (List.getElem_mem hjE)
     generalize hns:nodes (E.take j)=nj at *
     conv=>whnf
     repeat (refine aa.of ?_;conv=>whnf)
     refine aj.ah (ai.index ab (t:=111) rfl rfl rfl (by omega) (by omega) hHd.nil fun ad had=>?_)
     conv=>whnf
     repeat (refine aa.of ?_;conv=>whnf)
     refine aj.ah (ai.kC ab (t:=113) rfl rfl (ad:=ad) (k:=2*j) (L:=bV E) (m:=gQ E[j]) (.fact fun w hw=>had ▸ hTEn w hw) (by congr 1;show Int.toNat (j:Int)*2=_;rw[Int.toNat_natCast];omega) (gn hjE) rfl ?_)
     generalize hej:E[j]=e at *
     obtain⟨nm,x⟩:=e
     dsimp only at htk hdup hval hnj
     rw[show gQ (nm,x) = [aC nm,aE x] from rfl]
     conv=>whnf
     repeat (refine aa.of ?_;conv=>whnf)
     intro b7
     conv=>whnf
     repeat (refine aa.of ?_;conv=>whnf)
     refine aj.ah (ai.fL (l:=nm) (m:=[]) ?_)
     conv=>whnf
     repeat (refine aa.of ?_;conv=>whnf)
     refine aH.split (fun hne=>?_) (fun hne=>?_)
     · have hne':nm = []:=by simpa using hne
       rw[if_pos hne',List.append_nil] at htk
       conv=>whnf
       repeat (refine aa.of ?_;conv=>whnf)
       refine⟨j+1,⟨⟨hj8,by rw[htk];exact hj2,by rw[htk];exact hj3⟩,by dsimp only;omega⟩,?_,?_,?_⟩
       · conv=>whnf
         refine⟨?_,rfl⟩
         repeat (first | exact aw.nil | refine aw.any ?_ | refine aw.cons ?_ | refine aw.eq (by rw[wrap_i64 (by omega)];rfl) ?_)
       · conv=>whnf
         exact trivial
       · dsimp only
         rw[htk]
         exact aq.refl _
     have hne':nm≠[]:=by simpa using hne
     rw[if_neg hne'] at htk
     replace hdup:=hdup hne'
     replace hval:=hval hne'
     conv=>whnf
     repeat (refine aa.of ?_;conv=>whnf)
     cases h1:cN (x:Int) 0
     rotate_left
     · have h1':x=0:=by
        simp[aD] at h1
        omega
       refine aI.draw ab mixed rfl rfl ?_
       conv=>whnf
       repeat' (first
        | (refine And.intro ?_ ?_<;>conv=>whnf)
        | (refine ax.same rfl ?_;conv=>whnf)
        | (refine ax.row rfl ?_;conv=>whnf)
        | (refine ax.call rfl ?_;conv=>whnf)
        | (refine bG.of ?_;conv=>whnf)
        | (refine aa.of ?_;conv=>whnf)
        | (refine aH.yes h1 ?_;conv=>whnf)
        | (refine aH.yes rfl ?_;conv=>whnf)
        | (refine ax.mk ?_ ?_;(focus (first | exact aq.refl _ | exact aq.left _ _ | exact aq.of_le ⟨List.sublist_append_left _ _,fun w h=>h⟩ | exact aq.of_le ⟨List.Sublist.refl _,fun w h=>h.1⟩));conv=>whnf))
       all_goals exact hbad fun hg=>(hval hg).1 h1'
     have h1':x≠0:=by
      simp[aD] at h1
      omega
     cases h2:gG (x:Int) 32
     rotate_left
     · have h2':32≤x:=by
        simp[bI] at h2
        omega
       refine aI.draw ab mixed rfl rfl ?_
       conv=>whnf
       repeat' (first
        | (refine And.intro ?_ ?_<;>conv=>whnf)
        | (refine ax.same rfl ?_;conv=>whnf)
        | (refine ax.row rfl ?_;conv=>whnf)
        | (refine ax.call rfl ?_;conv=>whnf)
        | (refine bG.of ?_;conv=>whnf)
        | (refine aa.of ?_;conv=>whnf)
        | (refine aH.no h1 ?_;conv=>whnf)
        | (refine aH.yes h2 ?_;conv=>whnf)
        | (refine aH.yes rfl ?_;conv=>whnf)
        | (refine ax.mk ?_ ?_;(focus (first | exact aq.refl _ | exact aq.left _ _ | exact aq.of_le ⟨List.sublist_append_left _ _,fun w h=>h⟩ | exact aq.of_le ⟨List.Sublist.refl _,fun w h=>h.1⟩));conv=>whnf))
       all_goals exact hbad fun hg=>by have:=(hval hg).2.1;omega
     have h2':x<32:=by
      simp[bI] at h2
      omega
     have hkx:=hkc x h2'
     have hdone : ∀ {D rs},T.K x=0→∃ F',aq ⟨D,rs⟩ F'∧_:=fun {D rs} h3=>@hbad D rs fun hg=>(hval hg).2.2 h3
     cases h3:cN (T.K x:Int) 0
     rotate_left
     · have h3':T.K x=0:=by
        simp[aD] at h3
        omega
       refine aI.draw ab mixed rfl rfl ?_
       conv=>whnf
       repeat' (first
        | (refine And.intro ?_ ?_<;>conv=>whnf)
        | (refine ax.same rfl ?_;conv=>whnf)
        | (refine ax.row rfl ?_;conv=>whnf)
        | (refine ax.call rfl ?_;conv=>whnf)
        | (refine bG.of ?_;conv=>whnf)
        | (refine aa.of ?_;conv=>whnf)
        | (refine aH.no h1 ?_;conv=>whnf)
        | (refine aH.no h2 ?_;conv=>whnf)
        | (refine ai.dk ab (t:=115) rfl rfl rfl x rfl h2' rfl ?_;conv=>whnf)
        | (refine ai.bS ab (t:=3) rfl rfl (ad:=⟨bt,0,none⟩) (k:=2+x) (L:=C) (v:=aE (T.K x)) (.fact fun w hw=>hTA w hw) (fun _=>by show(Addr.add ⟨bt,0,none⟩ 2).add (x*1)=_;simp only[Addr.aV];rw[Nat.zero_add,Nat.mul_one,Nat.zero_add]) hkx ?_;conv=>whnf)
        | (refine aH.yes h3 ?_;conv=>whnf)
        | (refine aH.yes rfl ?_;conv=>whnf)
        | (refine ax.mk ?_ ?_;(focus (first | exact aq.refl _ | exact aq.left _ _ | exact aq.of_le ⟨List.sublist_append_left _ _,fun w h=>h⟩ | exact aq.of_le ⟨List.Sublist.refl _,fun w h=>h.1⟩));conv=>whnf))
       all_goals exact hdone h3'
     have h3':T.K x≠0:=by
      simp[aD] at h3
      omega
     refine aI.draw ab mixed rfl rfl ?_
     conv=>whnf
     repeat' (first
      | (refine And.intro ?_ ?_<;>conv=>whnf)
      | (refine ax.same rfl ?_;conv=>whnf)
      | (refine ax.row rfl ?_;conv=>whnf)
      | (refine ax.call rfl ?_;conv=>whnf)
      | (refine bG.of ?_;conv=>whnf)
      | (refine aa.of ?_;conv=>whnf)
      | (refine aH.no h1 ?_;conv=>whnf)
      | (refine aH.no h2 ?_;conv=>whnf)
      | (refine ai.dk ab (t:=115) rfl rfl rfl x rfl h2' rfl ?_;conv=>whnf)
      | (refine ai.bS ab (t:=3) rfl rfl (ad:=⟨bt,0,none⟩) (k:=2+x) (L:=C) (v:=aE (T.K x)) (.fact fun w hw=>hTA w hw) (fun _=>by show(Addr.add ⟨bt,0,none⟩ 2).add (x*1)=_;simp only[Addr.aV];rw[Nat.zero_add,Nat.mul_one,Nat.zero_add]) hkx ?_;conv=>whnf)
      | (refine aH.no h3 ?_;conv=>whnf)
      | (refine aH.no rfl ?_;conv=>whnf)
      | (refine ax.mk ?_ ?_;(focus (first | exact aq.refl _ | exact aq.left _ _ | exact aq.of_le ⟨List.sublist_append_left _ _,fun w h=>h⟩ | exact aq.of_le ⟨List.Sublist.refl _,fun w h=>h.1⟩));conv=>whnf))
     have hkey:=sV (gs++nj)
     by_cases hmem:x∈gs++nj
     · obtain⟨o1,ho1⟩ : ∃ o1:Int,o1=1:=⟨_,rfl⟩
       refine aj.ah (ai.eg ab (t:=181) rfl rfl rfl rfl (df.row (by simp)) rfl hkey (v:=.int .i64 o1) (fun i u hu=>by rw[(lE hu).1,ho1];rfl) ⟨(aE x,aE 1),List.mem_map.2 ⟨x,hmem,rfl⟩,rfl⟩ ?_)
       conv=>whnf
       repeat (refine aa.of ?_;conv=>whnf)
       refine a_.yK ab (t:=181) rfl rfl rfl rfl (r1:=[]) (r2:=[(r,Row.o (eH bm (T.kv T.dl).length (seen ++ [i])))]) (l:=eF (gs++nj)) rfl hkey ⟨(aE x,aE 1),List.mem_map.2 ⟨x,hmem,rfl⟩,rfl⟩ fun q u hq=>?_
       obtain⟨hq1,hq2⟩:=lE hq
       obtain⟨hql,hq3⟩:=List.getElem?_eq_some_iff.1 hq2
       have hqn:q<(eF (gs++nj)).length:=(List.getElem?_eq_some_iff.1 hq).1
       have hkey2 : ∀ p∈(eF (gs++nj)).set q (aE x,Value.int .i64 (IntKind.i64.wrap (o1+1))),MapKept.IsKey (.int .i64) p.1:=fun p hp=>by
        rcases List.mem_or_eq_of_mem_set hp with h5 | h5
        · exact hkey p h5
        · rw[h5];rfl
       have hset:((eF (gs++nj)).set q (aE x,Value.int .i64 (IntKind.i64.wrap (o1+1))))[q]? = some (aE x,Value.int .i64 (IntKind.i64.wrap (o1+1))):=by
        rw[List.getElem?_set_self hqn]
       generalize hl2:(eF (gs++nj)).set q (aE x,Value.int .i64 (IntKind.i64.wrap (o1+1)))=l2 at *
       conv=>whnf
       repeat (refine aa.of ?_;conv=>whnf)
       refine aj.ah (ai.eg ab (t:=181) rfl rfl rfl rfl (df.row (by simp)) rfl hkey2 (v:=.int .i64 (IntKind.i64.wrap (o1+1))) (fun q' u' hu=>by
        by_cases hqq:q=q'
        · subst hqq
          rw[hset] at hu
          cases hu
          rfl
        · rw[← hl2,List.getElem?_set_ne hqq] at hu
          obtain⟨_,hu2⟩:=lE hu
          obtain⟨hul,hu3⟩:=List.getElem?_eq_some_iff.1 hu2
          exact absurd (sU hj2 hql hul (hq3.trans hu3.symm)) hqq) ⟨_,List.mem_of_getElem? hset,rfl⟩ ?_)
       conv=>whnf
       repeat (refine aa.of ?_;conv=>whnf)
       refine aH.yes (by subst ho1;rw[bP];decide) ?_
       conv=>whnf
       repeat (refine aa.of ?_;conv=>whnf)
       exact hbad (hdup hmem)
     · obtain⟨z0,hz0⟩ : ∃ z0:Int,z0=0:=⟨_,rfl⟩
       refine aj.ah (ai.iD ab (t:=181) rfl rfl rfl rfl (df.row (by simp)) rfl hkey (wJ hmem) (z:=.int .i64 z0) (by rw[hz0];rfl) ?_)
       conv=>whnf
       repeat (refine aa.of ?_;conv=>whnf)
       refine a_.rA ab (t:=181) rfl rfl rfl rfl (r1:=[]) (r2:=[(r,Row.o (eH bm (T.kv T.dl).length (seen ++ [i])))]) (l:=eF (gs++nj)) rfl hkey (wJ hmem) ?_
       have hsn:eF (gs++nj) ++ [(aE x,Value.int .i64 (IntKind.i64.wrap (z0+1)))]=eF (gs++nj ++ [x]):=by
        rw[yH,hz0]
        rfl
       rw[hsn]
       conv=>whnf
       repeat (refine aa.of ?_;conv=>whnf)
       refine aj.ah (ai.eg ab (t:=181) rfl rfl rfl rfl (l:=eF (gs++nj ++ [x])) (df.row (by simp)) rfl (sV _) (v:=.int .i64 (IntKind.i64.wrap (z0+1))) (fun i u hu=>by rw[(lE hu).1,hz0];rfl) ⟨(aE x,aE 1),List.mem_map.2 ⟨x,by simp,rfl⟩,rfl⟩ ?_)
       conv=>whnf
       repeat (refine aa.of ?_;conv=>whnf)
       refine aH.no (by subst hz0;rw[bP];decide) ?_
       conv=>whnf
       repeat (refine aa.of ?_;conv=>whnf)
       have hnew:gs++nodes (E.take (j+1))=gs++nj ++ [x]:=by rw[htk,List.append_assoc]
       refine⟨j+1,⟨⟨hj8,?_,?_⟩,by dsimp only;omega⟩,?_,?_,?_⟩
       · rw[hnew,List.nodup_append]
         refine⟨hj2,by simp,fun a ha b hb e=>?_⟩
         have hb:b=x:=by simpa using hb
         subst hb e
         exact hmem ha
       · rw[hnew]
         intro y hy
         rcases List.mem_append.1 hy with h5 | h5
         · exact hj3 y h5
         · have:y=x:=by simpa using h5
           subst this
           exact⟨h1',h2',h3'⟩
       · conv=>whnf
         refine⟨?_,rfl⟩
         repeat (first | exact aw.nil | refine aw.any ?_ | refine aw.cons ?_ | refine aw.eq (by rw[wrap_i64 (by omega)];rfl) ?_)
       · conv=>whnf
         exact trivial
       · dsimp only
         rw[hnew]
         exact aq.refl _
   · have hj8:j=8:=by
      simp only[au,decide_eq_false_iff_not] at hlt
      omega
     subst hj8
     rw[hlist] at hj2 hj3 ⊢
     conv=>whnf
     repeat (refine aa.of ?_;conv=>whnf)
     refine⟨seen ++ [i],⟨⟨?_,?_,by rw[hgs];exact hj2,by rw[hgs];exact hj3⟩,by simp;omega⟩,?_,?_,?_⟩
     · rw[List.nodup_append]
       refine⟨hs1,by simp,fun a ha b hb e=>?_⟩
       have hb:b=i:=by simpa using hb
       subst hb e
       exact hni ha
     · intro y hy
       rcases List.mem_append.1 hy with h5 | h5
       · exact hs2 y h5
       · have:y=i:=by simpa using h5
         omega
     · conv=>whnf
       refine⟨?_,rfl⟩
       repeat (first | exact aw.nil | refine aw.any ?_ | refine aw.cons ?_ | refine aw.eq (by rw[wrap_i64 (by omega)];rfl) ?_)
     · conv=>whnf
       exact trivial
     · dsimp only
       rw[hgs]
       exact aq.refl _
 · have hF:T.vZ:=Tree.Dl hs2 hs3 hs4 (fun i hi=>hdone i (by rw[hkl];exact hi))
   have hlow:T.low 33 0:=Tree.BO (ni hF.uniq)
   have hgood:(∀ n,n<32→T.K n≠0→∃ p,(p,n)∈T.V 33 0 [])↔T.Good:=⟨fun h=>⟨hF,h⟩,fun h=>h.all⟩
   conv=>whnf
   repeat (refine aa.of ?_;conv=>whnf)
   refine aH.no hok ?_
   conv=>whnf
   repeat (refine aa.of ?_;conv=>whnf)
   refine aj.kY fun br=>?_
   conv=>whnf
   repeat (refine aa.of ?_;conv=>whnf)
   refine aj.w_ ab (e:=182) rfl (z:=[.map none]) rfl fun b8=>?_
   conv=>whnf
   repeat (refine aa.of ?_;conv=>whnf)
   refine a_.cE ab (t:=182) rfl (r1:=[(bc,Row.m (bF (eF (T.xg seen))) (eF (T.xg seen)).length),(r,Row.o (eH bm (T.kv T.dl).length seen)),(br,Row.m (bF (bq [])) (bq []).length)]) (r2:=[]) (b:=b8) (k:=0) (C:=[.map none]) (v:=.map (some br)) rfl rfl (by simp[Value.cells,aO]) (by decide) ?_
   rw[show laid [Value.map none] 0 (Value.map (some br)).cells.toList = [.map (some br)] from rfl]
   conv=>whnf
   repeat (refine aa.of ?_;conv=>whnf)
   refine ak.c_ (F':=⟨fun w=>bU T X bt bm w∧aB w (some ⟨b8,0,none⟩) [.map (some br)],[] ++ [(br,Row.m (bF (bq [])) (bq []).length)] ++ []⟩) (by
    refine aq.trans (aq.of_le (F':=⟨bU T X bt bm,[(br,Row.m (bF (bq [])) (bq []).length)] ++ [(b8,Row.c [.map (some br)])]⟩) ⟨?_,fun w h=>h⟩) aq.oA
    exact .cons _ (.cons _ (List.Sublist.refl _))) ?_
   have hvs:=yA T hT hname X bt bm 133 (.pointer (some ⟨b8,0,none⟩)) (fun s:List Nat=>[(br,Row.m (bF (bq s)) (bq s).length)]) (by simp) (fun _ _=>True) (fun w=>bU T X bt bm w∧aB w (some ⟨b8,0,none⟩) [.map (some br)]) (fun w h=>h.1) (fun s _ n s'=>s'=yt s n) (fun _ s p n _ _ _=>A0 b8 br T X bt bm s p n) 33 0 [] [] 0 hlow trivial (by decide) (by decide)
   refine ak.rows hvs (fun w hw=>hw) (fun v F hv=>?_)
   obtain⟨s,-,hst,rfl⟩:=hv
   have hmem:=tD hst
   conv=>whnf
   repeat (refine aa.of ?_;conv=>whnf)
   refine aI.loop ab (ι:=Nat) ([9]++List.range' 62 17) (fun x=>x≤32∧∀ m,m<x→T.K m≠0→m∈s)
    (fun x=>[(62,.v (.int .i64 (x:Int)))]) (fun _=>[]) (fun _=>⟨fun w=>bU T X bt bm w∧aB w (some ⟨b8,0,none⟩) [.map (some br)],[(br,Row.m (bF (bq s)) (bq s).length)]⟩)
    (fun x=>32 - x) 0 ⟨Nat.zero_le _,fun m hm=>by omega⟩ ?_ rfl (aq.of_le ⟨by simp,fun w hw=>hw.1⟩) fun n hn=>?_
   · conv=>whnf
     repeat (first | exact aw.nil | refine aw.any ?_ | refine aw.cons ?_)
   obtain⟨hn,hall⟩:=hn
   conv=>whnf
   repeat (refine aa.of ?_;conv=>whnf)
   refine aH.split (fun hlt=>?_) (fun hlt=>?_)
   · have hn32:n<32:=by
      simp only[au,decide_eq_true_eq] at hlt
      omega
     conv=>whnf
     repeat (refine aa.of ?_;conv=>whnf)
     refine aj.ah (ai.dk ab (t:=115) rfl rfl rfl n rfl hn32 rfl ?_)
     conv=>whnf
     repeat (refine aa.of ?_;conv=>whnf)
     refine aj.ah (ai.bS ab (t:=3) rfl rfl (ad:=⟨bt,0,none⟩) (k:=2+n) (L:=C) (v:=aE (T.K n)) (.fact fun w hw=>hTA w hw.1) (fun _=>by show(Addr.add ⟨bt,0,none⟩ 2).add (n*1)=_;simp only[Addr.aV];rw[Nat.zero_add,Nat.mul_one,Nat.zero_add]) (hkc n hn32) ?_)
     conv=>whnf
     repeat (refine aa.of ?_;conv=>whnf)
     refine aH.split (fun hk=>?_) (fun hk=>?_)
     · have hk':T.K n≠0:=by
        simp[ar] at hk
        omega
       conv=>whnf
       repeat (refine aa.of ?_;conv=>whnf)
       refine aj.ah (ai.bS ab (t:=182) rfl rfl (ad:=⟨b8,0,none⟩) (k:=0) (L:=[.map (some br)]) (v:=.map (some br)) (.fact fun w hw=>hw.2) (fun _=>rfl) rfl ?_)
       conv=>whnf
       repeat (refine aa.of ?_;conv=>whnf)
       by_cases hms:n∈s
       · obtain⟨vv,hvv⟩ : ∃ vv:Bool,vv=true:=⟨_,rfl⟩
         refine aj.ah (ai.eg ab (t:=182) rfl rfl rfl rfl (df.row (by simp)) rfl (ed s) (v:=.bool vv) (fun i u h=>by rw[hvv];exact jV i u h) ⟨(aE n,.bool true),List.mem_map.2 ⟨_,hms,rfl⟩,rfl⟩ ?_)
         conv=>whnf
         repeat (refine aa.of ?_;conv=>whnf)
         refine aH.no (by subst hvv;rfl) ?_
         conv=>whnf
         repeat (refine aa.of ?_;conv=>whnf)
         refine⟨n+1,⟨⟨hn32,fun m hm hkm=>?_⟩,by dsimp only;omega⟩,?_,?_,aq.refl _⟩
         · rcases Nat.lt_or_eq_of_le (Nat.lt_succ_iff.1 hm) with h5 | h5
           · exact hall m h5 hkm
           · rw[h5];exact hms
         · conv=>whnf
           refine⟨?_,rfl⟩
           repeat (first | exact aw.nil | refine aw.any ?_ | refine aw.cons ?_ | refine aw.eq (by rw[wrap_i64 (by omega)];rfl) ?_)
         · conv=>whnf
           exact trivial
       · obtain⟨vv,hvv⟩ : ∃ vv:Bool,vv=false:=⟨_,rfl⟩
         refine aj.ah (ai.iD ab (t:=182) rfl rfl rfl rfl (df.row (by simp)) rfl (ed s) (jI hms) (z:=.bool vv) (by rw[hvv];rfl) ?_)
         conv=>whnf
         repeat (refine aa.of ?_;conv=>whnf)
         refine aH.yes (by subst hvv;rfl) ?_
         conv=>whnf
         repeat (refine aa.of ?_;conv=>whnf)
         refine hbad fun hg=>hms ((hmem n).2 (.inr (hg.all n hn32 hk')))
     · have hk':T.K n=0:=by
        simp[ar] at hk
        omega
       conv=>whnf
       repeat (refine aa.of ?_;conv=>whnf)
       repeat' (first
        | (refine aH.no rfl ?_;conv=>whnf))
       refine⟨n+1,⟨⟨hn32,fun m hm hkm=>?_⟩,by dsimp only;omega⟩,?_,?_,aq.refl _⟩
       · rcases Nat.lt_or_eq_of_le (Nat.lt_succ_iff.1 hm) with h5 | h5
         · exact hall m h5 hkm
         · rw[h5] at hkm
           exact absurd hk' hkm
       · conv=>whnf
         refine⟨?_,rfl⟩
         repeat (first | exact aw.nil | refine aw.any ?_ | refine aw.cons ?_ | refine aw.eq (by rw[wrap_i64 (by omega)];rfl) ?_)
       · conv=>whnf
         exact trivial
   · have hn32:n=32:=by
      simp only[au,decide_eq_false_iff_not] at hlt
      omega
     subst hn32
     conv=>whnf
     repeat (refine aa.of ?_;conv=>whnf)
     refine⟨_,aq.refl _,?_⟩
     have hg:T.Good:=hgood.1 fun m hm hk=>by
      rcases(hmem m).1 (hall m hm hk) with h5 | h5
      · cases h5
      · exact h5
     rw[← hres]
     unfold Tree.res
     rw[if_pos hg]
     rfl
end Go.Proofs.YtfeoedkmndkbjaaGreatDoor
namespace Go.Proofs.YtfeoedkmndkbjaaGreatDoor
open Go Go.Sx
set_option maxRecDepth 100000
set_option maxHeartbeats 4000000
set_option linter.unusedVariables false
set_option linter.unusedSimpArgs false
def eY (d:List UInt8) (n:Nat):List Nat:=(List.range n).filter fun m=>decide (rk d m=2)
theorem yR (d:List UInt8) (n:Nat):eY d (n+1)=eY d n++if rk d n=2 then [n] else []:=by
 unfold eY
 rw[List.range_succ,List.filter_append]
 congr 1
 by_cases h:rk d n=2<;>simp[h]
theorem lI {d:List UInt8} {n m:Nat}:m∈eY d n↔m<n∧rk d m=2:=by
 unfold eY
 rw[List.mem_filter,List.mem_range]
 simp
noncomputable def aG (d:List UInt8) (H:Nat→Hd):Tree:=⟨eY d 32,rk d,fun n=>eA (ay d n) 8,H⟩
theorem ux (c:List UInt8):(eA c 8).length=8:=by simp[eA]
theorem fp (d:List UInt8) {H:Nat→Hd} (hH : ∀ n,(H n).Ok 8):(aG d H).Ok:=by
 refine⟨fun n=>ux _,hH,?_,fun n hn=>(lI.1 hn).1,fun n=>?_,fun n e he=>?_⟩
 · exact List.nodup_range.sublist List.filter_sublist
 · have:=lX d n
   show rk d n≤_
   omega
 · obtain⟨i,_,rfl⟩:=List.mem_map.1 he
   have:=bJ (ay d n) (16*i+14)
   show aJ _ _≤_
   omega
theorem gE (d:List UInt8) (H:Nat→Hd) : ∀ n,∀ e∈(aG d H).E n,e.1.length≤14:=by
 intro n e he
 obtain⟨i,_,rfl⟩:=List.mem_map.1 he
 have:=j_ (ay d n) 14 (16*i)
 show(cut _ _ _).length≤14
 unfold cut
 rw[List.length_take]
 omega
theorem zx (d:List UInt8) (H H':Nat→Hd) : ∀ (f n:Nat) (p:List UInt8),(aG d H).V f n p=(aG d H').V f n p
 | 0,n,p=>rfl
 | f+1,n,p=>by
  have h : ∀ n p,(aG d H).V f n p=(aG d H').V f n p:=zx d H H' f
  show(p,n)::_=(p,n)::_
  simp only[h]
  rfl
theorem qJ {d:List UInt8} {H H':Nat→Hd} (h:(aG d H).Good):(aG d H').Good:=
 ⟨⟨h.fine.ok,h.fine.nd,h.fine.one⟩,fun n hn hk=>by
  obtain⟨p,hp⟩:=h.all n hn hk
  exact⟨p,by rw[zx d H' H];exact hp⟩⟩
theorem zR (d:List UInt8) (H H':Nat→Hd):(aG d H).res=(aG d H').res:=by
 unfold Tree.res
 by_cases h:(aG d H).Good
 · rw[if_pos h,if_pos (qJ h)]
 · rw[if_neg h,if_neg fun h2=>h (qJ h2)]
def mf:Hd:=⟨some ⟨0,0,none⟩,8⟩
theorem BK:mf.Ok 8:=⟨fun h=>(by cases h),Nat.le_refl _⟩
def hJ (d:List UInt8):Prop:=∀ n∈eY d 32,ee (ay d n)=true
noncomputable instance (d:List UInt8):Decidable (hJ d):=Classical.propDecidable _
noncomputable def kq (d:List UInt8):Nat:=if dM d≠0 then dM d else if hJ d then (aG d fun _=>mf).res else 4
def lW (X:Value) (d:List UInt8) (e:Nat) (v:Value) (F:Fx):Prop:=
 if e=0 then ∃ bt bm H,(∀ n,(H n).Ok 8)∧v = .tuple #[.pointer (some ⟨bt,0,none⟩),.int .i64 (e:Int)]∧F=⟨bU (aG d H) X bt bm,[]⟩
 else ∃ p,v = .tuple #[.pointer p,.int .i64 (e:Int)]∧F=⟨fun _=>True,[]⟩
theorem oc {X:Value} {d:List UInt8} {D:World→Prop} {rs:List (Nat×Row)} {e:Nat} {p:Option Addr} (h:e≠0) : ∃ F',aq ⟨D,rs⟩ F'∧lW X d e (.tuple #[.pointer p,.int .i64 (e:Int)]) F':=by
 refine⟨⟨fun _=>True,[]⟩,aq.bare fun _ _=>trivial,?_⟩
 unfold lW
 rw[if_neg h]
 exact⟨p,rfl,rfl⟩
theorem pj (d:List UInt8) (hd:d.length=12288) (b:Nat→Nat) (hb : ∀ i,i<12→b i<96) : ∀ i,i<12→(dC d b (i+1)).take 128=dg d (b 0)
 | 0,_=>by
  have:=lC hd (hb 0 (by decide))
  show(([]:List UInt8)++dg d (b 0)).take 128=_
  rw[List.nil_append,List.take_of_length_le (by omega)]
 | i+1,hi=>by
  have hl:=fD hd (b:=b) (i:=i+1) fun j hj=>hb j (by omega)
  show(dC d b (i+1)++dg d (b (i+1))).take 128=_
  rw[List.take_append_of_le_length (by omega),pj d hd b hb i (by omega)]
theorem gJ {d:List UInt8} (h0:dM d=0) {n:Nat} (hn:n<32) (hk:rk d n=2):ay d n=cut d (128*rb d n 0) 128∧rb d n 0<96:=by
 obtain⟨hd,hok⟩:=bl h0
 obtain⟨h1,h2,h3⟩:=iy hok hn hk
 have hg:a7 d n=0:=by
  unfold a7
  rw[if_neg (show ¬ dM d≠0 by rw[h0];simp),if_neg (by omega),if_neg (by show ¬ rk d n=0;omega)]
 refine⟨?_,h3⟩
 unfold ay
 rw[if_neg (by rw[hg];simp),h1,pj d hd (rb d n) (fun i hi=>eo hok hn hi) 11 (by decide)]
 unfold dg
 rw[if_neg (by omega)]
theorem yx {c:List UInt8} (h:ee c=true):g_ c=eA c 8:=by
 unfold g_
 rw[h]
 rfl
theorem yV (K:Nat→Nat) (X:Value) (bm:Nat) {n:Nat} (hn:n<32):laid (dv X bm K n) (2+n) [aE (K n)]=dv X bm K (n+1):=by
 unfold dv
 rw[show 2+n=1+(1+n) by omega,lF,lF]
 congr 2
 unfold oh
 have hs:List.replicate (32 - n) (aE 0) = [aE 0]++List.replicate (32 - (n+1)) (aE 0):=by
  rw[show 32 - n=(32 - (n+1))+1 by omega,List.replicate_succ]
  rfl
 have hl:((List.range n).map fun m=>aE (K m)).length=n:=by simp
 rw[hs,← List.append_assoc,ow (by simp),qE (l:=[aE (K n)]) (B:=[aE 0]) hl.symm rfl,List.range_succ,List.map_append]
 rfl
theorem h_ (d:List UInt8) (h:Hd) (hh:h.Ok d.length) (hl:d.length≤1000000):af Tryz.prog 44 [h.v d.length] (fun w=>By w h d) (lW (h.v d.length) d (kq d)):=by
 refine af.aF ab Tryz.func44 rfl (by decide) (n:=Tryz.f44.ntmps - 1) rfl rfl fun w0 av=>?_
 conv=>whnf
 refine ak.val (wa d h hh hl) (fun w hw=>hw) (fun v D hv=>?_)
 by_cases h0:dM d=0
 rotate_left
 · have:kq d=dM d:=by
    unfold kq
    rw[if_pos h0]
   rw[this]
   generalize dM d=e at *
   subst hv
   conv=>whnf
   repeat (refine aa.of ?_;conv=>whnf)
   refine aH.yes (by simp[ar];omega) ?_
   conv=>whnf
   repeat (refine aa.of ?_;conv=>whnf)
   exact oc h0
 obtain⟨hd,hok⟩:=bl h0
 obtain⟨e0,he0⟩ : ∃ e0,e0=dM d:=⟨_,rfl⟩
 rw[← he0] at hv
 rw[h0] at he0
 subst hv
 have hbad : ∀ (D:World→Prop) (rs:List (Nat×Row)),¬ hJ d→∃ F',aq ⟨D,rs⟩ F'∧lW (h.v d.length) d (kq d) (.tuple #[.pointer none,.int .i64 4]) F':=fun D rs hn=>by
  have:kq d=4:=by
   unfold kq
   rw[if_neg (by rw[h0];simp),if_neg hn]
  rw[this]
  exact oc (by decide)
 conv=>whnf
 repeat (refine aa.of ?_;conv=>whnf)
 refine aH.no (by subst he0;simp[ar]) ?_
 conv=>whnf
 repeat (refine aa.of ?_;conv=>whnf)
 refine aj.kY fun bm=>?_
 conv=>whnf
 repeat (refine aa.of ?_;conv=>whnf)
 refine aj.ah (ai.r8 ab (t:=117) rfl rfl ?_)
 conv=>whnf
 repeat (refine aa.of ?_;conv=>whnf)
 refine aj.ye fun bt=>?_
 conv=>whnf
 repeat (refine aa.of ?_;conv=>whnf)
 have hc0:dv (h.v d.length) bm (rk d) 0 = [h.v d.length,.map (some bm)]++List.replicate 32 (aE 0):=by simp[dv,oh]
 refine aI.loop ab (ι:=Nat×(Nat→Hd)) ([6,7,8,9,10]++List.range' 20 46) (fun x=>x.1≤32∧(∀ m,(x.2 m).Ok 8)∧∀ m∈eY d x.1,ee (ay d m)=true)
  (fun x=>[(20,.v (.int .i64 (x.1:Int)))]) (fun _=>[])
  (fun x=>⟨fun w=>By w h d∧∀ m∈eY d x.1,aB w (x.2 m).a (bV (eA (ay d m) 8)),[(bm,Row.m (bF ((aG d x.2).kv (eY d x.1))) ((aG d x.2).kv (eY d x.1)).length),(bt,Row.c (dv (h.v d.length) bm (rk d) x.1))]⟩)
  (fun x=>32 - x.1) (0,fun _=>mf) ⟨Nat.zero_le _,fun _=>BK,fun m hm=>by cases hm⟩ ?_ rfl (aq.of_le ⟨by dsimp only;rw[hc0];exact List.Sublist.refl _,fun w hw=>⟨hw,fun m hm=>by cases hm⟩⟩) fun x hx=>?_
 · conv=>whnf
   repeat (first | exact aw.nil | refine aw.any ?_ | refine aw.cons ?_)
 obtain⟨n,H⟩:=x
 obtain⟨hn,hH,hall⟩:=hx
 dsimp only at hn hH hall ⊢
 conv=>whnf
 repeat (refine aa.of ?_;conv=>whnf)
 refine aH.split (fun hlt=>?_) (fun hlt=>?_)
 · have hn32:n<32:=by
    simp only[au,decide_eq_true_eq] at hlt
    omega
   have hhc:=hh.cap
   have e1:IntKind.i64.wrap (1792+IntKind.i64.wrap ((n:Int)*16))=((1792+16*n:Nat):Int):=by
    rw[wrap_i64 (n:=(n:Int)*16) (by omega),wrap_i64 (by omega)]
    omega
   obtain⟨m,hm⟩ : ∃ m,m=d.length - (1792+16*n):=⟨_,rfl⟩
   have hok2:(Hd.sub h (1792+16*n)).Ok m:=Hd.eu hh (by omega)
   have hby2 : ∀ w,By w h d→By w (Hd.sub h (1792+16*n)) (cut d (1792+16*n) m):=fun w hw=>By.sub hw (by omega)
   have hcl2:(cut d (1792+16*n) m).length=m:=aZ (by omega)
   have hb0:aJ (cut d (1792+16*n) m) 0=rk d n:=a8 (by omega) (by omega)
   have hb3:aJ (cut d (1792+16*n) m) 3=rb d n 0:=a8 (by omega) (by omega)
   have hkn:=yV (rk d) (h.v d.length) bm hn32
   have hkc:=r5 (h.v d.length) bm (rk d) (n:=n+1) (m:=n) (by omega)
   have hkl:=xR (rk d) hn
   have htl:(dv (h.v d.length) bm (rk d) n).length=34:=by simp[dv,hkl]
   have hwr:(Value.int .i64 (IntKind.i64.wrap (aJ (cut d (1792+16*n) m) 0:Int)))=aE (rk d n):=by rw[ej,hb0];rfl
   have hdn:=yR d n
   have hdc:=gJ h0 hn32
   generalize cut d (1792+16*n) m=cc at *
   generalize hC1:dv (h.v d.length) bm (rk d) (n+1)=C1 at *
   generalize hC0:dv (h.v d.length) bm (rk d) n=C0 at *
   conv=>whnf
   repeat (refine aa.of ?_;conv=>whnf)
   refine aj.ah (ai.gD ab (t:=23) rfl rfl rfl rfl (1792+16*n) e1 (by omega) hhc ?_)
   rw[← hm]
   conv=>whnf
   repeat (refine aa.of ?_;conv=>whnf)
   refine aI.draw ab mixed rfl rfl ?_
   conv=>whnf
   repeat' (first
    | (refine And.intro ?_ ?_<;>conv=>whnf)
    | (refine ax.same rfl ?_;conv=>whnf)
    | (refine ax.row rfl ?_;conv=>whnf)
    | (refine ax.call rfl ?_;conv=>whnf)
    | (refine bG.of ?_;conv=>whnf)
    | (refine aa.of ?_;conv=>whnf)
    | (refine ai.cL ab (t:=23) rfl rfl rfl rfl 0 rfl (by omega) hok2 fun ad had=>?_;conv=>whnf)
    | (refine ai.cy ab (t:=5) rfl rfl had (l:=cc) (.fact fun w h=>hby2 w h.1) rfl (by omega) ?_;conv=>whnf)
    | (refine ai.dk ab (t:=115) rfl rfl rfl n rfl hn32 rfl ?_;conv=>whnf)
    | (refine a_.cE ab (t:=3) rfl (r1:=[(bm,Row.m (bF ((aG d H).kv (eY d n))) ((aG d H).kv (eY d n)).length)]) (r2:=[]) (b:=bt) (k:=2+n) (C:=C0) (v:=.int .i64 (IntKind.i64.wrap (aJ cc 0:Int))) (by show(Addr.add ⟨bt,0,none⟩ 2).add (n*1)=_;simp only[Addr.aV];rw[Nat.zero_add,Nat.mul_one]) rfl (by simp[Value.cells,aO]) (by rw[htl];show 2+n+1≤34;omega) ?_;conv=>whnf)
    | (refine ax.mk ?_ ?_;(focus (first | exact aq.refl _ | exact aq.left _ _ | exact aq.of_le ⟨List.sublist_append_left _ _,fun w h=>h⟩ | exact aq.of_le ⟨List.Sublist.refl _,fun w h=>h.1⟩));conv=>whnf))
   rw[hwr,show(aE (rk d n)).cells.toList = [aE (rk d n)] from rfl,hkn]
   conv=>whnf
   repeat (refine aa.of ?_;conv=>whnf)
   refine aj.ah (ai.dk ab (t:=115) rfl rfl rfl n rfl hn32 rfl ?_)
   conv=>whnf
   repeat (refine aa.of ?_;conv=>whnf)
   refine aj.ah (ai.bS ab (t:=3) rfl rfl (ad:=⟨bt,0,none⟩) (k:=2+n) (L:=C1) (v:=aE (rk d n)) (bp.row (by simp)) (fun _=>by show(Addr.add ⟨bt,0,none⟩ 2).add (n*1)=_;simp only[Addr.aV];rw[Nat.zero_add,Nat.mul_one,Nat.zero_add]) hkc ?_)
   conv=>whnf
   repeat (refine aa.of ?_;conv=>whnf)
   refine aH.split (fun hk=>?_) (fun hk=>?_)
   · have hk':rk d n≠2:=by
      simp[ar] at hk
      omega
     rw[if_neg hk',List.append_nil] at hdn
     conv=>whnf
     repeat (refine aa.of ?_;conv=>whnf)
     refine⟨(n+1,H),⟨⟨hn32,hH,by rw[hdn];exact hall⟩,by dsimp only;omega⟩,?_,?_,?_⟩
     · conv=>whnf
       refine⟨?_,rfl⟩
       repeat (first | exact aw.nil | refine aw.any ?_ | refine aw.cons ?_ | refine aw.eq (by rw[wrap_i64 (by omega)];rfl) ?_)
     · conv=>whnf
       exact trivial
     · dsimp only
       rw[hdn,← hC1]
       exact aq.refl _
   have hk':rk d n=2:=by
    simp[ar] at hk
    omega
   rw[if_pos hk'] at hdn
   obtain⟨hdc1,hdc2⟩:=hdc hk'
   have e2:IntKind.i64.wrap (IntKind.i64.wrap (aJ cc 3:Int)*128)=((128*rb d n 0:Nat):Int):=by
    rw[ej,hb3,wrap_i64 (by omega)]
    omega
   have e3:IntKind.i64.wrap (IntKind.i64.wrap (IntKind.i64.wrap (aJ cc 3:Int)*128)+128)=((128*rb d n 0+128:Nat):Int):=by
    rw[e2,wrap_i64 (by omega)]
    omega
   have hcl3:(cut d (128*rb d n 0) 128).length=128:=aZ (by omega)
   have hps:=sk (cut d (128*rb d n 0) 128) (Hd.sub h (128*rb d n 0)) (by rw[hcl3];exact Hd.eu hh (by omega)) hcl3
   rw[hcl3] at hps
   rw[← hdc1] at hps
   have hpe : ∀ w,By w h d→By w (Hd.sub h (128*rb d n 0)) (ay d n):=fun w hw=>by rw[hdc1];exact By.sub hw (by omega)
   have hnin:n ∉ eY d n:=fun h=>by have:=(lI.1 h).1;omega
   conv=>whnf
   repeat (refine aa.of ?_;conv=>whnf)
   refine aj.ah (ai.cL ab (t:=23) rfl rfl rfl rfl 3 rfl (by omega) hok2 fun ad had=>?_)
   conv=>whnf
   repeat (refine aa.of ?_;conv=>whnf)
   refine aj.ah (ai.cy ab (t:=5) rfl rfl had (l:=cc) (.fact fun w h=>hby2 w h.1) rfl (by omega) ?_)
   conv=>whnf
   repeat (refine aa.of ?_;conv=>whnf)
   refine aj.ah (ai.pD ab (t:=23) rfl rfl rfl rfl (128*rb d n 0) 128 e2 e3 (by omega) ?_)
   conv=>whnf
   repeat (refine aa.of ?_;conv=>whnf)
   refine ak.pure hps (fun w hw=>hpe w hw.1) (fun v D hv=>?_)
   obtain⟨hE,rfl,hEo,rfl⟩:=hv
   cases hpo:ee (ay d n)
   · obtain⟨ok,hok'⟩ : ∃ ok:Bool,ok=ee (ay d n):=⟨_,rfl⟩
     conv=>whnf
     repeat (refine aa.of ?_;conv=>whnf)
     exact hbad _ _ fun hp=>by
      have:=hp n (lI.2 ⟨hn32,hk'⟩)
      rw[hpo] at this
      cases this
   · have hpr:=yx hpo
     rw[hpr,ux] at hEo ⊢
     conv=>whnf
     repeat (refine aa.of ?_;conv=>whnf)
     refine aj.ah (ai.bS ab (t:=114) rfl rfl (ad:=⟨bt,0,none⟩) (k:=1) (L:=C1) (v:=.map (some bm)) (bp.row (by simp[Fx.and])) (fun _=>rfl) (by rw[← hC1];rfl) ?_)
     conv=>whnf
     repeat (refine aa.of ?_;conv=>whnf)
     refine a_.c_ (F':=⟨fun w=>(By w h d∧∀ m∈eY d n,aB w (H m).a (bV (eA (ay d m) 8)))∧aB w hE.a (bV (eA (ay d n) 8)),[] ++ [(bm,Row.m (bF ((aG d H).kv (eY d n))) ((aG d H).kv (eY d n)).length)] ++ [(bt,Row.c C1)]⟩) (aq.of_le ⟨by simp[Fx.and],fun w hw=>hw⟩) ?_
     refine a_.rA ab (t:=114) rfl rfl rfl rfl (r1:=[]) (r2:=[(bt,Row.c C1)]) (l:=(aG d H).kv (eY d n)) rfl ((aG d H).ld _) ((aG d H).zA hnin) ?_
     have hkv:(aG d H).kv (eY d n) ++ [(aE n,hE.v 8)]=(aG d fun m=>if m=n then hE else H m).kv (eY d (n+1)):=by
      rw[hdn]
      unfold Tree.kv
      rw[List.map_append]
      congr 1
      · refine List.map_congr_left fun m hm=>?_
        have:m≠n:=fun e=>hnin (e ▸ hm)
        show _=(aE m,Value.slice (if m=n then hE else H m).a 8 (if m=n then hE else H m).c)
        rw[if_neg this]
        rfl
      · show _ = [(aE n,Value.slice (if n=n then hE else H n).a 8 (if n=n then hE else H n).c)]
        rw[if_pos rfl]
     rw[show(Value.int .i64 (n:Int),hE.v 8)=(aE n,hE.v 8) from rfl,hkv]
     conv=>whnf
     repeat (refine aa.of ?_;conv=>whnf)
     refine⟨(n+1,fun m=>if m=n then hE else H m),⟨⟨hn32,fun m=>?_,fun m hm=>?_⟩,by dsimp only;omega⟩,?_,?_,?_⟩
     · dsimp only
       split
       · exact hEo
       · exact hH m
     · dsimp only at hm
       rw[hdn] at hm
       rcases List.mem_append.1 hm with h5 | h5
       · exact hall m h5
       · have:m=n:=by simpa using h5
         rw[this]
         exact hpo
     · conv=>whnf
       refine⟨?_,rfl⟩
       repeat (first | exact aw.nil | refine aw.any ?_ | refine aw.cons ?_ | refine aw.eq (by rw[wrap_i64 (by omega)];rfl) ?_)
     · conv=>whnf
       exact trivial
     · rw[← hC1]
       refine aq.of_le ⟨by simp,fun w hw=>⟨hw.1.1,fun m hm=>?_⟩⟩
       dsimp only at hm ⊢
       rw[hdn] at hm
       rcases List.mem_append.1 hm with h5 | h5
       · have:m≠n:=fun e=>hnin (e ▸ h5)
         rw[if_neg this]
         exact hw.1.2 m h5
       · have:m=n:=by simpa using h5
         subst this
         rw[if_pos rfl]
         exact hw.2
 · have hn32:n=32:=by
    simp only[au,decide_eq_false_iff_not] at hlt
    omega
   subst hn32
   have hP:hJ d:=hall
   have ho:kq d=(aG d H).res:=by
    unfold kq
    rw[if_neg (by rw[h0];simp),if_pos hP]
    exact zR d _ _
   conv=>whnf
   repeat (refine aa.of ?_;conv=>whnf)
   refine ak.c_ (F':=⟨bU (aG d H) (h.v d.length) bt bm,[]⟩) (by
    refine aq.trans (aq.Bp (r1:=[]) (r2:=[(bt,Row.c (dv (h.v d.length) bm (rk d) 32))]) (b:=bm) (l:=(aG d H).kv (eY d 32))) ?_
    refine aq.trans aq.share1 (aq.imp fun w hw=>⟨hw.2,hw.1.2,hw.1.1.2⟩)) ?_
   refine ak.val (xz (aG d H) (fp d hH) (gE d H) (h.v d.length) bt bm) (fun w hw=>hw) (fun v D hv=>?_)
   rw[ho]
   generalize (aG d H).res=res at *
   subst hv
   conv=>whnf
   repeat (refine aa.of ?_;conv=>whnf)
   by_cases hr:res=0
   · refine⟨_,aq.refl _,?_⟩
     unfold lW
     rw[if_pos hr]
     exact⟨bt,bm,H,hH,rfl,rfl⟩
   · exact oc hr
def Cf:Code→Code
 | .seq a _=>a
 | c=>c
def iE:Code→Code
 | .seq _ b=>b
 | c=>c
theorem wU (d:List UInt8) (h:Hd) (hh:h.Ok d.length) (h0:dM d=0) (n:Nat) (hn:n<32) (hk2:rk d n=2) (i:Nat) (hi:i<8) (e:En) (he1:e.1.length≤14) (he2:e.2≤1000000) :
 af Tryz.prog 72 [h.v d.length,.int .i64 (n:Int),.int .i64 (i:Int),.agg ⟨gQ e⟩] (fun w=>By w h d) (lq (eX d n i (iF e))):=by
 obtain⟨nm,nd⟩:=e
 dsimp only at he1 he2
 have hel:=jZ (e:=(nm,nd)) he1
 have hE:iF (nm,nd)=dm (lay (List.replicate 16 0) 0 nm) 14 (nd%256):=rfl
 have hll:(lay (List.replicate 16 (0:UInt8)) 0 nm).length=16:=by rw[ct (by simp;omega)];simp
 rw[show gQ (nm,nd) = [aC nm,aE nd] from rfl]
 have ho:IntKind.i64.wrap ((i:Int)*16)=((16*i:Nat):Int):=by
  rw[wrap_i64 (by omega)]
  omega
 obtain⟨data,hE2⟩ : ∃ data,data=iF (nm,nd):=⟨_,rfl⟩
 rw[← hE2] at hel hE ⊢
 obtain⟨dd,hdd⟩ : ∃ dd,dd=eX d n i data:=⟨_,rfl⟩
 rw[← hdd]
 obtain⟨gd,hgd⟩ : ∃ gd,gd=Tryz.f72.body.getD .skip:=⟨_,rfl⟩
 obtain⟨c4,hc4⟩ : ∃ c,c=iE (iE (iE (Tryz.f72.body.getD .skip))):=⟨_,rfl⟩
 have hB:Tryz.f72.body=some (.seq (Cf (Tryz.f72.body.getD .skip)) (.seq (Cf (iE (Tryz.f72.body.getD .skip))) (.seq (Cf (iE (iE (Tryz.f72.body.getD .skip)))) c4))):=by rw[hc4];rfl
 obtain⟨c5,hc5⟩ : ∃ c,c=iE (iE (iE (iE (Tryz.f72.body.getD .skip)))):=⟨_,rfl⟩
 have hB4:c4 = .seq (Cf (iE (iE (iE (Tryz.f72.body.getD .skip))))) c5:=by rw[hc4,hc5];rfl
 obtain⟨c6,hc6⟩ : ∃ c,c=iE (iE (iE (iE (iE (Tryz.f72.body.getD .skip))))):=⟨_,rfl⟩
 have hB5:c5 = .seq (Cf (iE (iE (iE (iE (Tryz.f72.body.getD .skip)))))) c6:=by rw[hc5,hc6];rfl
 clear hc4 hc5
 refine af.aF ab Tryz.func72 hB (by decide) (n:=Tryz.f72.ntmps - 4) rfl rfl fun w0 av=>?_
 refine nG ?_
 conv=>whnf
 repeat (refine aa.of ?_;conv=>whnf)
 intro b7
 conv=>whnf
 repeat (refine aa.of ?_;conv=>whnf)
 refine aj.ek ab (t:=23) rfl rfl rfl rfl rfl rfl 16 rfl rfl (by decide) (by decide) fun bb=>?_
 conv=>whnf
 repeat (refine aa.of ?_;conv=>whnf)
 refine aj.lN ab (t:=23) rfl rfl rfl rfl (r1:=[]) (r2:=[]) (b:=bb) (k:=0) (l:=List.replicate 16 0) (m:=nm) (Z:=[]) rfl (by omega) (by simp;omega) ?_
 generalize lay (List.replicate 16 (0:UInt8)) 0 nm=l1 at *
 conv=>whnf
 repeat (refine aa.of ?_;conv=>whnf)
 rw[hB4]
 conv=>whnf
 repeat (refine aa.of ?_;conv=>whnf)
 refine aj.ah (ai.jf ab (t:=23) rfl rfl rfl rfl 14 rfl (by decide) ?_)
 conv=>whnf
 repeat (refine aa.of ?_;conv=>whnf)
 refine a_.cC ab (t:=5) rfl rfl (r1:=[]) (r2:=[]) (l:=l1) (Z:=[]) (nd%256) rfl (wrap_u8 nd) (by omega) (by omega) ?_
 rw[← hE]
 conv=>whnf
 repeat (refine aa.of ?_;conv=>whnf)
 rw[hB5]
 have hws:=wX d h hh h0 n hn hk2 i hi data ⟨some ⟨bb,0,none⟩,16⟩ (by rw[hel];exact⟨fun h=>(by cases h),Nat.le_refl _⟩) hel (IntKind.i64.wrap ((i:Int)*16)) ho
 rw[hel,← hdd] at hws
 conv=>whnf
 repeat (refine aa.of ?_;conv=>whnf)
 refine ak.c_ (F':=⟨fun w=>By w h d∧aB w (some ⟨bb,0,none⟩) (data.map ao),[]⟩) aq.nE ?_
 refine ak.pure hws (fun w hw=>hw) (fun v D hv=>?_)
 obtain⟨k,rfl,hk,rfl⟩:=hv
 conv=>whnf
 repeat (refine aa.of ?_;conv=>whnf)
 rw[hc6]
 conv=>whnf
 repeat (refine aa.of ?_;conv=>whnf)
 exact⟨_,aq.of_le ⟨by simp[Fx.and],fun w hw=>hw.2⟩,k,rfl,hk,rfl⟩
def mark (c l:List Nat):List Nat:=l.foldl (fun c x=>c.set x 1) c
theorem qM : ∀ (l c:List Nat),(mark c l).length=c.length
 | [],c=>rfl
 | x::l,c=>by
  show(mark (c.set x 1) l).length=_
  rw[qM l,List.length_set]
theorem pe (c l m:List Nat):mark c (l++m)=mark (mark c l) m:=by
 unfold mark
 rw[List.foldl_append]
theorem qG {c:List Nat} {x:Nat} (hx:x<c.length) (v y:Nat):(c.set x v).getD y 0=if y=x then v else c.getD y 0:=by
 rw[List.getD_eq_getElem?_getD,List.getElem?_set]
 by_cases h:x=y
 · subst h
   simp[hx]
 · rw[if_neg h,if_neg (fun e=>h e.symm),List.getD_eq_getElem?_getD]
theorem lj : ∀ (l c:List Nat),(∀ x∈l,x<c.length)→∀ y,(mark c l).getD y 0=if y∈l then 1 else c.getD y 0
 | [],c,_,y=>by simp[mark]
 | x::l,c,h,y=>by
  show(mark (c.set x 1) l).getD y 0=_
  rw[lj l (c.set x 1) (fun z hz=>by rw[List.length_set];exact h z (List.mem_cons_of_mem _ hz)),qG (h x (List.mem_cons_self ..))]
  by_cases h1:y∈l
  · rw[if_pos h1,if_pos (List.mem_cons_of_mem _ h1)]
  · rw[if_neg h1]
    by_cases h2:y=x
    · rw[if_pos h2,if_pos (by rw[h2];exact List.mem_cons_self ..)]
    · rw[if_neg h2,if_neg]
      rintro h3
      rcases List.mem_cons.1 h3 with h4 | h4
      · exact h2 h4
      · exact h1 h4
theorem th (ch:Nat→List Nat) (f n:Nat):(cM ch (f+1) n).tail=(ch n).flatMap (cM ch f):=rfl
theorem tO {ch:Nat→List Nat} : ∀ {f n:Nat},Bu ch f n→cM ch (f+1) n=cM ch f n
 | 0,_,h=>h.elim
 | f+1,n,h=>by
  show n::(ch n).flatMap (cM ch (f+1))=n::(ch n).flatMap (cM ch f)
  congr 1
  unfold List.flatMap
  congr 1
  exact List.map_congr_left fun c hc=>tO (h c hc)
theorem tB {ch:Nat→List Nat} {f n:Nat} (h:ch n = []):cM ch (f+1) n = [n]:=by
 unfold cM
 rw[h]
 rfl
section
variable {d:List UInt8} (h0:dM d=0)
noncomputable def T0 (d:List UInt8):Tree:=aG d fun _=>mf
theorem pg (d:List UInt8):(T0 d).Ok:=fp d fun _=>BK
theorem bY {n:Nat}:n∈(T0 d).dl↔n<32∧rk d n=2:=lI
theorem q9 {n:Nat} (h:n∈(T0 d).dl):(T0 d).ch n=nodes (eA (ay d n) 8):=(T0 d).kS h
theorem wC (T:Tree) : ∀ (f n:Nat) (p:List UInt8) (m:Nat),(∃ q,(q,m)∈T.V f n p)↔m∈cM T.ch f n
 | 0,n,p,m=>by simp[Tree.V,cM]
 | f+1,n,p,m=>by
  have ih:=wC T f
  constructor
  · rintro⟨q,hq⟩
    rcases List.mem_cons.1 hq with hq | hq
    · cases hq
      unfold cM
      exact List.mem_cons_self ..
    · obtain⟨e,he,hq⟩:=List.mem_flatMap.1 hq
      split at hq
      · cases hq
      · rename_i hne
        unfold cM
        refine List.mem_cons_of_mem _ (List.mem_flatMap.2 ⟨e.2,?_,(ih e.2 _ m).1 ⟨q,hq⟩⟩)
        exact List.mem_map.2 ⟨e,List.mem_filter.2 ⟨he,by simpa using hne⟩,rfl⟩
  · intro hm
    unfold cM at hm
    rcases List.mem_cons.1 hm with hm | hm
    · subst hm
      exact⟨p,List.mem_cons_self ..⟩
    · obtain⟨x,hx,hm⟩:=List.mem_flatMap.1 hm
      obtain⟨e,he,rfl⟩:=List.mem_map.1 hx
      obtain⟨he1,he2⟩:=List.mem_filter.1 he
      have he2:e.1≠[]:=by simpa using he2
      obtain⟨q,hq⟩:=(ih e.2 (p ++ [47]++e.1) m).2 hm
      exact⟨q,List.mem_cons_of_mem _ (List.mem_flatMap.2 ⟨e,he1,by rw[if_neg he2];exact hq⟩)⟩
theorem mi (e:En) (l:List En):nodes (e::l)=if e.1 = [] then nodes l else e.2::nodes l:=by
 unfold nodes
 by_cases h:e.1 = []
 · rw[if_pos h,List.filter_cons_of_neg (by simp[h])]
 · rw[if_neg h,List.filter_cons_of_pos (by simp[h])]
   rfl
include h0
theorem di {m:Nat}:a7 d (m:Int)=0↔m<32∧rk d m≠0:=by
 unfold a7
 rw[if_neg (show ¬ dM d≠0 by rw[h0];simp)]
 by_cases h1:(m:Int)<0∨32≤(m:Int)
 · rw[if_pos h1]
   constructor
   · intro h;cases h
   · rintro⟨h2,_⟩;omega
 · rw[if_neg h1]
   by_cases h2:rk d (m:Int).toNat=0
   · rw[if_pos h2]
     constructor
     · intro h;cases h
     · rintro⟨_,h3⟩;exact absurd h2 h3
   · rw[if_neg h2]
     exact⟨fun _=>⟨by omega,h2⟩,fun _=>rfl⟩
theorem zT (hok : ∀ n∈(T0 d).dl,cX (ay d n)=true) (hv : ∀ n,∀ x∈(T0 d).ch n,x<32∧rk d x≠0) : ∀ (f n:Nat) (c:List Nat),n∈(T0 d).dl→Bu (T0 d).ch f n→c.length=32→
 (∀ x∈(cM (T0 d).ch f n).tail,c.getD x 0=0)→(cM (T0 d).ch f n).Nodup→ev d f n c=some (mark c (cM (T0 d).ch f n).tail):=by
 intro f
 induction f with
 | zero=>exact fun n c _ h _ _ _=>h.elim
 | succ f ih=>
  intro n c hn hlow hc hun hnd
  have hE:eT (ay d n)=eA (ay d n) 8:=by
   unfold eT
   rw[hok n hn]
   rfl
  have hch:=q9 hn
  rw[th] at hun ⊢
  have hnd2:=(List.nodup_cons.1 hnd).2
  unfold ev
  rw[if_pos (hok n hn),hE]
  rw[hch] at hun hnd2 ⊢
  have hvn : ∀ x∈nodes (eA (ay d n) 8),x<32∧rk d x≠0:=fun x hx=>hv n x (by rw[hch];exact hx)
  have hln : ∀ x∈nodes (eA (ay d n) 8),Bu (T0 d).ch f x:=fun x hx=>hlow x (by rw[hch];exact hx)
  clear hE hch hlow hnd
  generalize eA (ay d n) 8=l at *
  induction l generalizing c with
  | nil=>rfl
  | cons e l ihl=>
   unfold fu
   rw[mi] at hun hnd2 hvn hln ⊢
   by_cases he:e.1 = []
   · rw[if_pos he] at hun hnd2 hvn hln ⊢
     rw[if_pos he]
     exact ihl c hc hun hnd2 hvn hln
   · rw[if_neg he] at hun hnd2 hvn hln ⊢
     rw[if_neg he]
     obtain⟨hx1,hx2⟩:=hvn e.2 (List.mem_cons_self ..)
     have hlx:=hln e.2 (List.mem_cons_self ..)
     obtain⟨g,rfl⟩ : ∃ g,f=g+1:=by
      cases f with
      | zero=>exact hlx.elim
      | succ g=>exact⟨g,rfl⟩
     rw[List.flatMap_cons] at hun hnd2 ⊢
     have hpx:cM (T0 d).ch (g+1) e.2=e.2::(cM (T0 d).ch (g+1) e.2).tail:=rfl
     have hall : ∀ x∈cM (T0 d).ch (g+1) e.2,x<32:=fun x hx=>by
      rcases yQ (g+1) hx with h5 | ⟨y,_,h5⟩
      · rw[h5];exact hx1
      · exact(hv y x h5).1
     have hxz:c.getD e.2 0=0:=hun e.2 (by rw[hpx];simp)
     obtain⟨hndx,hndr,hdis⟩:=List.nodup_append.1 hnd2
     have hge : ¬ (a7 d e.2≠0∨0<c.getD e.2 0):=by
      rintro(h5 | h5)
      · exact h5 ((di h0).2 ⟨hx1,hx2⟩)
      · omega
     rw[if_neg hge,hxz]
     have hgo : ∀ c',c'=mark c (cM (T0 d).ch (g+1) e.2)→fu d (ev d (g+1)) l c'=some (mark c (cM (T0 d).ch (g+1) e.2++(nodes l).flatMap (cM (T0 d).ch (g+1)))):=by
      rintro c' rfl
      rw[pe]
      refine ihl _ (by rw[qM,hc]) (fun x hx=>?_) hndr (fun x hx=>hvn x (List.mem_cons_of_mem _ hx)) (fun x hx=>hln x (List.mem_cons_of_mem _ hx))
      rw[lj _ _ (fun x hx=>by rw[hc];exact hall x hx),if_neg fun h5=>hdis x h5 x hx rfl]
      exact hun x (List.mem_append_right _ hx)
     by_cases hk:rk d e.2=2
     · rw[if_pos hk]
       have hrec:=ih e.2 (c.set e.2 1) (bY.2 ⟨hx1,hk⟩) hlx (by rw[List.length_set,hc]) (fun x hx=>by
        rw[qG (by omega)]
        have hne:x≠e.2:=fun h5=>by
         rw[hpx] at hndx
         exact(List.nodup_cons.1 hndx).1 (h5 ▸ hx)
        rw[if_neg hne]
        exact hun x (List.mem_append_left _ (List.mem_of_mem_tail hx))) hndx
       rw[hrec]
       refine hgo _ ?_
       conv=>rhs;rw[hpx]
       rfl
     · rw[if_neg hk]
       refine hgo _ ?_
       have hno:(T0 d).ch e.2 = []:=(T0 d).kE fun h5=>hk (bY.1 h5).2
       rw[tB hno]
       rfl
structure Shown (d:List UInt8) (F:List Nat) (c c':List Nat):Prop where
 nd:F.Nodup
 un : ∀ x∈F,c.getD x 0=0
 val : ∀ x∈F,x<32∧rk d x≠0
 ok : ∀ x∈F,x∈(T0 d).dl→cX (ay d x)=true
 res:c'=mark c F
omit h0 in
theorem Shown.append {F G:List Nat} {c c1 c2:List Nat} (hc:c.length=32) (h:Shown d F c c1) (k:Shown d G c1 c2):Shown d (F++G) c c2:=by
 have hget : ∀ x,c1.getD x 0=if x∈F then 1 else c.getD x 0:=fun x=>by
  rw[h.res,lj _ _ fun y hy=>by rw[hc];exact(h.val y hy).1]
 have hdis : ∀ x∈G,x ∉ F:=fun x hx hf=>by
  have:=k.un x hx
  rw[hget,if_pos hf] at this
  cases this
 refine⟨List.nodup_append.2 ⟨h.nd,k.nd,fun a ha b hb e=>hdis b hb (e ▸ ha)⟩,fun x hx=>?_,fun x hx=>?_,fun x hx=>?_,by rw[k.res,h.res,pe]⟩
 · rcases List.mem_append.1 hx with h5 | h5
   · exact h.un x h5
   · have:=k.un x h5
     rwa [hget,if_neg (hdis x h5)] at this
 · exact(List.mem_append.1 hx).elim (h.val x) (k.val x)
 · exact(List.mem_append.1 hx).elim (h.ok x) (k.ok x)
theorem AT : ∀ (f n:Nat) (c c':List Nat),n∈(T0 d).dl→c.length=32→ev d f n c=some c'→
 cX (ay d n)=true∧Bu (T0 d).ch (f+1) n∧Shown d (cM (T0 d).ch (f+1) n).tail c c':=by
 intro f
 induction f with
 | zero=>
  intro n c c' _ _ h
  cases h
 | succ f ih=>
  intro n c c' hn hc h
  unfold ev at h
  split at h
  rotate_left
  · cases h
  rename_i hok
  refine⟨hok,?_⟩
  have hE:eT (ay d n)=eA (ay d n) 8:=by
   unfold eT
   rw[hok]
   rfl
  rw[hE] at h
  have hch:=q9 hn
  rw[th,hch]
  have key : ∀ (l:List En) (c c':List Nat),c.length=32→fu d (ev d f) l c=some c'→(∀ x∈nodes l,Bu (T0 d).ch (f+1) x)∧Shown d ((nodes l).flatMap (cM (T0 d).ch (f+1))) c c':=by
   intro l
   induction l with
   | nil=>
    intro c c' hc h
    unfold fu at h
    cases h
    exact⟨fun x hx=>(by cases hx),⟨List.nodup_nil,fun x hx=>(by cases hx),fun x hx=>(by cases hx),fun x hx=>(by cases hx),rfl⟩⟩
   | cons e l ihl=>
    intro c c' hc h
    unfold fu at h
    rw[mi]
    by_cases he:e.1 = []
    · rw[if_pos he] at h ⊢
      exact ihl c c' hc h
    rw[if_neg he] at h ⊢
    by_cases hge:a7 d e.2≠0∨0<c.getD e.2 0
    · rw[if_pos hge] at h
      cases h
    rw[if_neg hge] at h
    have hg0:a7 d (e.2:Int)=0:=Classical.byContradiction fun h5=>hge (.inl h5)
    have hz:c.getD e.2 0=0:=by
     have : ¬ 0<c.getD e.2 0:=fun h5=>hge (.inr h5)
     omega
    obtain⟨hx1,hx2⟩:=(di h0).1 hg0
    rw[hz] at h
    rw[List.flatMap_cons]
    have hone:(cX (ay d e.2)=true∨e.2 ∉ (T0 d).dl)→Shown d [e.2] c (c.set e.2 1):=fun ho=>⟨by simp,fun x hx=>by
     have:x=e.2:=by simpa using hx
     rw[this];exact hz,fun x hx=>by
     have:x=e.2:=by simpa using hx
     rw[this];exact⟨hx1,hx2⟩,fun x hx hd=>by
     have:x=e.2:=by simpa using hx
     rw[this] at hd ⊢
     exact ho.resolve_right fun h5=>h5 hd,rfl⟩
    have hpx:cM (T0 d).ch (f+1) e.2 = [e.2]++(cM (T0 d).ch (f+1) e.2).tail:=rfl
    by_cases hk:rk d e.2=2
    · rw[if_pos hk] at h
      split at h
      · cases h
      · rename_i c1 hc1
        obtain⟨g1,g2,g3⟩:=ih e.2 _ c1 (bY.2 ⟨hx1,hk⟩) (by rw[List.length_set,hc]) hc1
        have hl1:c1.length=32:=by rw[g3.res,qM,List.length_set,hc]
        obtain⟨k1,k2⟩:=ihl c1 c' hl1 h
        refine⟨fun x hx=>?_,?_⟩
        · rcases List.mem_cons.1 hx with h5 | h5
          · rw[h5];exact g2
          · exact k1 x h5
        · rw[hpx]
          exact((hone (.inl g1)).append hc g3).append hc k2
    · rw[if_neg hk] at h
      have hnd:e.2 ∉ (T0 d).dl:=fun h5=>hk (bY.1 h5).2
      have hno:(T0 d).ch e.2 = []:=(T0 d).kE hnd
      obtain⟨k1,k2⟩:=ihl _ c' (by rw[List.length_set,hc]) h
      refine⟨fun x hx=>?_,?_⟩
      · rcases List.mem_cons.1 hx with h5 | h5
        · rw[h5]
          intro y hy
          rw[hno] at hy
          cases hy
        · exact k1 x h5
      · rw[tB hno]
        exact(hone (.inr hnd)).append hc k2
  obtain⟨k1,k2⟩:=key _ c c' hc h
  exact⟨fun x hx=>k1 x (by rw[← hch];exact hx),k2⟩
omit h0 in
theorem e_ {c:List UInt8}:cX c=true↔ee c=true∧∀ x∈nodes (eA c 8),x≠0:=by
 rw[ec]
 unfold ee
 rw[decide_eq_true_iff]
 constructor
 · intro h
   refine⟨fun i hi=>((rS c i).1 (h i hi)).1,fun x hx=>?_⟩
   obtain⟨e,he,rfl⟩:=List.mem_map.1 hx
   obtain⟨he1,he2⟩:=List.mem_filter.1 he
   obtain⟨i,hi,rfl⟩:=List.mem_map.1 he1
   have he2:(fZ c i).1≠[]:=by simpa using he2
   exact((rS c i).1 (h i (List.mem_range.1 hi))).2.resolve_left he2
 · rintro⟨h1,h2⟩ i hi
   refine(rS c i).2 ⟨h1 i hi,?_⟩
   by_cases he:(fZ c i).1 = []
   · exact .inl he
   · exact .inr (h2 _ (List.mem_map.2 ⟨fZ c i,List.mem_filter.2 ⟨List.mem_map.2 ⟨i,List.mem_range.2 hi,rfl⟩,by simpa using he⟩,rfl⟩))
theorem j2:0∈(T0 d).dl:=by
 obtain⟨hd,hok⟩:=bl h0
 exact bY.2 ⟨by decide,(qt hd hok).1⟩
omit h0 in
theorem jT (x:Nat):eV.getD x 0=if x=0 then 1 else 0:=by
 unfold eV
 rw[qG (by simp)]
 by_cases h:x=0
 · rw[if_pos h,if_pos h]
 · rw[if_neg h,if_neg h,List.getD_eq_getElem?_getD,List.getElem?_replicate]
   split<;>rfl
theorem BW:(hJ d∧(T0 d).Good)↔∃ c,ev d 33 0 eV=some c∧Reached d c:=by
 have hc0:eV.length=32:=by simp[eV]
 have hroot:=j2 h0
 constructor
 · rintro⟨hP,hG⟩
   have hu:=hG.fine.uniq
   have hlow:=ni hu
   have hnd:=sY hu 33 (gC.root (ch:=(T0 d).ch))
   have hv : ∀ n,∀ x∈(T0 d).ch n,x<32∧rk d x≠0:=fun n x hx=>by
    by_cases hn:n∈(T0 d).dl
    · have:=hG.fine.ok n hn x hx
      exact⟨this.2.1,this.2.2⟩
    · rw[(T0 d).kE hn] at hx
      cases hx
   have hok : ∀ n∈(T0 d).dl,cX (ay d n)=true:=fun n hn=>e_.2 ⟨hP n hn,fun x hx=>(hG.fine.ok n hn x (by rw[q9 hn];exact hx)).1⟩
   have hpr:cM (T0 d).ch 33 0=0::(cM (T0 d).ch 33 0).tail:=rfl
   have h0t : ∀ x∈(cM (T0 d).ch 33 0).tail,x≠0:=fun x hx e=>by
    rw[hpr] at hnd
    exact(List.nodup_cons.1 hnd).1 (e ▸ hx)
   have hx32 : ∀ x∈(cM (T0 d).ch 33 0).tail,x<32∧rk d x≠0:=fun x hx=>by
    rcases yQ 33 (List.mem_of_mem_tail hx) with h5 | ⟨y,_,h5⟩
    · exact absurd h5 (h0t x hx)
    · exact hv y x h5
   have hr:=zT h0 hok hv 33 0 eV hroot hlow hc0 (fun x hx=>by rw[jT,if_neg (h0t x hx)]) hnd
   refine⟨_,hr,fun n hn=>?_⟩
   rw[lj _ _ (fun x hx=>by rw[hc0];exact(hx32 x hx).1),jT,di h0]
   constructor
   · rintro⟨_,hk⟩
     obtain⟨p,hp⟩:=hG.all n hn hk
     have hm:=(wC (T0 d) 33 0 [] n).1 ⟨p,hp⟩
     rw[hpr] at hm
     rcases List.mem_cons.1 hm with h5 | h5
     · split
       all_goals first | rfl | rw[if_pos h5]
     · rw[if_pos h5]
   · intro h
     refine⟨hn,?_⟩
     split at h
     · rename_i h5
       exact(hx32 n h5).2
     · split at h
       · rename_i h5
         have:=(bY.1 hroot).2
         rw[h5]
         omega
       · cases h
 · rintro⟨c,hr,hR⟩
   obtain⟨g1,g2,g3⟩:=AT h0 33 0 eV c hroot hc0 hr
   have hpr:cM (T0 d).ch 34 0=0::(cM (T0 d).ch 34 0).tail:=rfl
   have hget : ∀ x,c.getD x 0=if x∈(cM (T0 d).ch 34 0).tail then 1 else if x=0 then 1 else 0:=fun x=>by
    rw[g3.res,lj _ _ (fun x hx=>by rw[hc0];exact(g3.val x hx).1),jT]
   have h0t:0 ∉ (cM (T0 d).ch 34 0).tail:=fun h=>by
    have:=g3.un 0 h
    rw[jT,if_pos rfl] at this
    cases this
   have hnd:(cM (T0 d).ch 34 0).Nodup:=by
    rw[hpr]
    exact List.nodup_cons.2 ⟨h0t,g3.nd⟩
   have hall : ∀ n,n<32→rk d n≠0→n∈cM (T0 d).ch 34 0:=fun n hn hk=>by
    have h5:=(hR n hn).1 ((di h0).2 ⟨hn,hk⟩)
    rw[hget] at h5
    rw[hpr]
    split at h5
    · rename_i h6
      exact List.mem_cons_of_mem _ h6
    · split at h5
      · rename_i h6
        rw[h6]
        exact List.mem_cons_self ..
      · cases h5
   have hdl : ∀ n∈(T0 d).dl,n∈cM (T0 d).ch 34 0∧cX (ay d n)=true:=fun n hn=>by
    obtain⟨hn1,hn2⟩:=bY.1 hn
    have hm:=hall n hn1 (by omega)
    refine⟨hm,?_⟩
    rw[hpr] at hm
    rcases List.mem_cons.1 hm with h5 | h5
    · rw[h5];exact g1
    · exact g3.ok n h5 hn
   have hperm:=qF 34 g2
   have hnd2:(0::(cM (T0 d).ch 34 0).flatMap (T0 d).ch).Nodup:=hperm.nodup_iff.1 hnd
   have hnd3:List.Pairwise _ ((cM (T0 d).ch 34 0).flatMap (T0 d).ch):=(List.nodup_cons.1 hnd2).2
   rw[List.pairwise_flatMap] at hnd3
   obtain⟨hp1,hp2⟩:=hnd3
   have hfine:(T0 d).vZ:=by
    refine⟨fun n hn x hx=>?_,fun n hn=>hp1 n (hdl n hn).1,fun n hn m hm x h1 h2=>?_⟩
    · have hxp:x∈cM (T0 d).ch 34 0:=hperm.mem_iff.2 (List.mem_cons_of_mem _ (List.mem_flatMap.2 ⟨n,(hdl n hn).1,hx⟩))
      have hx0:x≠0:=(e_.1 (hdl n hn).2).2 x (by rw[← q9 hn];exact hx)
      rw[hpr] at hxp
      rcases List.mem_cons.1 hxp with h5 | h5
      · exact absurd h5 hx0
      · have:=g3.val x h5
        exact⟨hx0,this.1,this.2⟩
    · by_cases hnm:n=m
      · exact hnm
      exfalso
      obtain⟨a,ha,ha2⟩:=List.getElem_of_mem (hdl n hn).1
      obtain⟨b,hb,hb2⟩:=List.getElem_of_mem (hdl m hm).1
      rw[List.pairwise_iff_getElem] at hp2
      rcases Nat.lt_trichotomy a b with h | h | h
      · exact hp2 a b ha hb h x (by rw[ha2];exact h1) x (by rw[hb2];exact h2) rfl
      · subst h
        exact hnm (ha2.symm.trans hb2)
      · exact hp2 b a hb ha h x (by rw[hb2];exact h2) x (by rw[ha2];exact h1) rfl
   refine⟨fun n hn=>(e_.1 (hdl n hn).2).1,hfine,fun n hn hk=>?_⟩
   refine(wC (T0 d) 33 0 [] n).2 ?_
   rw[← tO (ni hfine.uniq)]
   exact hall n hn hk
end
theorem iu (d:List UInt8):kq d=aM d:=by
 unfold kq aM
 by_cases h0:dM d=0
 · have hne : ¬ dM d≠0:=by rw[h0];simp
   rw[if_neg hne,if_neg hne]
   have hg:=BW h0
   by_cases h : ∃ c,ev d 33 0 eV=some c∧Reached d c
   · obtain⟨hP,hG⟩:=hg.2 h
     obtain⟨c,hc,hR⟩:=h
     rw[if_pos hP,hc]
     dsimp only
     rw[if_pos hR]
     unfold Tree.res
     exact if_pos hG
   · refine Eq.trans (b:=4) ?_ ?_
     · split
       · rename_i hP
         unfold Tree.res
         exact if_neg fun hG=>h (hg.1 ⟨hP,hG⟩)
       · rfl
     · split
       · rfl
       · rename_i c hc
         exact(if_neg fun hR=>h ⟨c,hc,hR⟩).symm
 · rw[if_pos h0,if_pos h0]
end Go.Proofs.YtfeoedkmndkbjaaGreatDoor
namespace Go.Proofs.YtfeoedkmndkbjaaGreatDoor
open Go Go.Sx
set_option maxRecDepth 100000
set_option linter.unusedVariables false
set_option linter.unusedSimpArgs false
theorem dJ {d:List UInt8} {n x:Nat}:x∈part d n 12↔x≠0∧∃ i,i<12∧rb d n i=x:=by
 unfold part
 rw[List.mem_filter,List.mem_map]
 constructor
 · rintro⟨⟨i,hi,rfl⟩,h0⟩
   exact⟨by simpa using h0,i,List.mem_range.1 hi,rfl⟩
 · rintro⟨h0,i,hi,rfl⟩
   exact⟨⟨i,List.mem_range.2 hi,rfl⟩,by simpa using h0⟩
theorem tE (d:List UInt8) : ∀ N,used d N=(List.range N).flatMap fun n=>part d n 12
 | 0=>rfl
 | N+1=>by
  show used d N++part d N 12=_
  rw[tE d N,List.range_succ,List.flatMap_append]
  simp
theorem oC (d:List UInt8):e9 d 32 0=List.range 18++(List.range 32).flatMap fun n=>part d n 12:=by
 unfold e9
 rw[← tE]
 simp[part]
theorem Ee {l:List Nat} {f:Nat→List Nat} (h:l.Pairwise fun a b=>∀ x∈f a,∀ y∈f b,x≠y) {n m:Nat} (hn:n∈l) (hm:m∈l) (hne:n≠m) {x:Nat} (h1:x∈f n) (h2:x∈f m):False:=by
 rw[List.pairwise_iff_getElem] at h
 obtain⟨a,ha,ha2⟩:=List.getElem_of_mem hn
 obtain⟨b,hb,hb2⟩:=List.getElem_of_mem hm
 rcases Nat.lt_trichotomy a b with h5 | h5 | h5
 · exact h a b ha hb h5 x (by rw[ha2];exact h1) x (by rw[hb2];exact h2) rfl
 · subst h5
   exact hne (ha2.symm.trans hb2)
 · exact h b a hb ha h5 x (by rw[hb2];exact h2) x (by rw[ha2];exact h1) rfl
section
variable {d:List UInt8}
theorem ln (hok:eZ d):(∀ n,n<32→(part d n 12).Nodup)∧∀ n m,n<32→m<32→n≠m→∀ x,x∈part d n 12→x ∉ part d m 12:=by
 have h:=hok.nodup
 rw[oC,List.nodup_append] at h
 have h2:List.Pairwise _ ((List.range 32).flatMap fun n=>part d n 12):=h.2.1
 rw[List.pairwise_flatMap] at h2
 exact⟨fun n hn=>h2.1 n (List.mem_range.2 hn),fun n m hn hm hne x h3 h4=>Ee h2.2 (List.mem_range.2 hn) (List.mem_range.2 hm) hne h3 h4⟩
theorem kT (hok:eZ d) {n x:Nat} (hn:n<32) (hx:x∈part d n 12):18≤x∧x<96:=by
 obtain⟨h0,i,hi,rfl⟩:=dJ.1 hx
 have:=bD (hok.form n hn) i hi h0
 exact⟨this.1,this.2.1⟩
theorem m0 {j:Nat}:j∈e9 d 32 0↔j<18∨∃ n,n<32∧j∈part d n 12:=by
 rw[oC,List.mem_append,List.mem_range,List.mem_flatMap]
 simp only[List.mem_range]
theorem ll (hok:eZ d) (j:Nat):da (bA d) j=true↔j<18∨∃ n,n<32∧j∈part d n 12:=by
 rw[← hok.bits,gU,decide_eq_true_iff,m0]
 intro i hi
 rcases m0.1 hi with h5 | ⟨n,hn,h5⟩
 · omega
 · exact(kT hok hn h5).2
theorem Dt (hd:d.length=12288) (h1:cut d 0 4 = [82,70,83,49]) (h2:gz (cut d 4 124)=true) (h3:gz (cut d 1676 116)=true) (h4 : ∀ n,n<32→cH d n=true)
 (h5 : ∀ n,n<32→(part d n 12).Nodup) (h6 : ∀ n m,n<32→m<32→n≠m→∀ x,x∈part d n 12→x ∉ part d m 12) (h7 : ∀ j,j<96→(da (bA d) j=true↔j<18∨∃ n,n<32∧j∈part d n 12)):eZ d:=by
 have hr : ∀ n x,n<32→x∈part d n 12→18≤x∧x<96:=fun n x hn hx=>by
  obtain⟨h0,i,hi,rfl⟩:=dJ.1 hx
  have:=bD (h4 n hn) i hi h0
  exact⟨this.1,this.2.1⟩
 have hup : ∀ i∈e9 d 32 0,i<96:=fun i hi=>by
  rcases m0.1 hi with h5 | ⟨n,hn,h5⟩
  · omega
  · exact(hr n i hn h5).2
 refine⟨h1,h2,h3,h4,?_,?_⟩
 · rw[oC,List.nodup_append]
   refine⟨List.nodup_range,?_,fun a ha b hb e=>?_⟩
   · show List.Pairwise _ _
     rw[List.pairwise_flatMap]
     refine⟨fun n hn=>h5 n (List.mem_range.1 hn),?_⟩
     have hnr:List.Pairwise _ (List.range 32):=List.nodup_range
     refine hnr.imp_of_mem fun {a b} ha hb hne x hx y hy e=>?_
     subst e
     exact h6 a b (List.mem_range.1 ha) (List.mem_range.1 hb) hne x hx hy
   · subst e
     obtain⟨n,hn,hb⟩:=List.mem_flatMap.1 hb
     have:=(hr n a (List.mem_range.1 hn) hb).1
     have:=List.mem_range.1 ha
     omega
 · refine xE (by rw[bu,aU hd]) fun j=>?_
   rw[gU hup,Bool.eq_iff_iff,decide_eq_true_iff,m0]
   by_cases hj:j<96
   · exact(h7 j hj).symm
   · constructor
     · rintro(h | ⟨n,hn,h⟩)
       · omega
       · have:=(hr n j hn h).2
         omega
     · intro h
       unfold da at h
       rw[Bool.and_eq_true,decide_eq_true_iff,aU hd] at h
       omega
end
theorem ia {d e:List UInt8} {a k:Nat} (hd:a+k≤d.length) (he:a+k≤e.length) (h : ∀ m,a≤m→m<a+k→aJ e m=aJ d m):cut e a k=cut d a k:=by
 refine bW (by rw[aZ hd,aZ he]) fun i hi=>?_
 rw[aZ he] at hi
 rw[a8 he hi,a8 hd hi,h (a+i) (by omega) (by omega)]
def eh (d e:List UInt8) (n:Nat):Prop:=∀ r,r<16→aJ e (1792+16*n+r)=aJ d (1792+16*n+r)
theorem dQ {d e:List UInt8} {n:Nat} (h:eh d e n):rk e n=rk d n∧rs e n=rs d n∧(∀ i,i<12→rb e n i=rb d n i)∧rp e n=rp d n:=by
 refine⟨h 0 (by decide),?_,fun i hi=>h (3+i) (by omega),h 15 (by decide)⟩
 unfold rs
 rw[h 1 (by decide),h 2 (by decide)]
theorem fU {d e:List UInt8} {n:Nat} (h:eh d e n):part e n 12=part d n 12:=by
 unfold part
 congr 1
 exact List.map_congr_left fun i hi=>(dQ h).2.2.1 i (List.mem_range.1 hi)
theorem AF {d e:List UInt8} {n:Nat} (h:eh d e n) (hd:d.length=12288) (he:e.length=12288) (hf:cH d n=true) (hb : ∀ x∈part d n 12,∀ m,128*x≤m→m<128*x+128→aJ e m=aJ d m):cH e n=true:=by
 obtain⟨h1,h2,h3,h4⟩:=dQ h
 unfold cH at hf ⊢
 rw[h4,h1,h2]
 have hz:jB (rk d n) (rs d n) (rb e n)=jB (rk d n) (rs d n) (rb d n):=by
  rw[Bool.eq_iff_iff,cW,cW]
  constructor
  · rintro⟨a,b,c⟩
    exact⟨a,b,fun i hi=>by rw[← h3 i hi];exact c i hi⟩
  · rintro⟨a,b,c⟩
    exact⟨a,b,fun i hi=>by rw[h3 i hi];exact c i hi⟩
 rw[hz]
 rw[Bool.and_eq_true] at hf ⊢
 refine⟨hf.1,?_⟩
 have hf2:=hf.2
 split
 · rename_i hq
   rw[if_pos hq] at hf2
   exact hf2
 · rename_i hq
   rw[if_neg hq,decide_eq_true_eq] at hf2
   rw[decide_eq_true_eq]
   obtain⟨g1,g2,g3,g4,g5,g6⟩:=hf2
   refine⟨by rw[h1];exact g1,by rw[h2];exact g2,fun hn=>by rw[h1];exact g3 hn,fun i hi h0=>by rw[h3 i hi,h2] at *;exact g4 i hi h0,?_,by rw[h1,h2,h3 0 (by decide)];exact g6⟩
   rw[h2]
   unfold jA at g5 ⊢
   by_cases q1:rs d n%128=0
   · rw[decide_eq_true q1];rfl
   rw[decide_eq_false q1,Bool.false_or] at g5 ⊢
   have hlt:rs d n/128<12:=by omega
   rw[h3 _ hlt]
   by_cases q2:rb d n (rs d n/128)=0
   · rw[decide_eq_true q2];rfl
   rw[decide_eq_false q2,Bool.false_or] at g5 ⊢
   have hmem:rb d n (rs d n/128)∈part d n 12:=dJ.2 ⟨q2,_,hlt,rfl⟩
   have hx:=g4 _ hlt q2
   rw[ia (d:=d) (by omega) (by omega) fun m a b=>hb _ hmem m (by omega) (by omega)]
   exact g5
theorem lO {d e:List UInt8} (hok:eZ d) (hd:d.length=12288) (he:e.length=12288) {n:Nat} (hn:n<32) (hsup : ∀ m,m<128→aJ e m=aJ d m) (hrest : ∀ m,1676≤m→m<1792→aJ e m=aJ d m)
 (hslot : ∀ m,m<32→m≠n→eh d e m) (hform:cH e n=true) (hblk : ∀ m,m<32→m≠n→∀ x∈part d m 12,∀ i,128*x≤i→i<128*x+128→aJ e i=aJ d i)
 (hnd:(part e n 12).Nodup) (hdj : ∀ m,m<32→m≠n→∀ x∈part e n 12,x ∉ part d m 12)
 (hbit : ∀ j,j<96→(da (bA e) j=true↔j<18∨j∈part e n 12∨∃ m,m<32∧m≠n∧j∈part d m 12)):eZ e:=by
 obtain⟨p1,p2⟩:=ln hok
 refine Dt he ?_ ?_ ?_ (fun m hm=>?_) (fun m hm=>?_) (fun m k hm hk hne x h1 h2=>?_) (fun j hj=>?_)
 · rw[ia (d:=d) (by omega) (by omega) fun m _ h=>hsup m (by omega)]
   exact hok.magic
 · rw[ia (d:=d) (by omega) (by omega) fun m _ h=>hsup m (by omega)]
   exact hok.super
 · rw[ia (d:=d) (by omega) (by omega) fun m h h'=>hrest m h h']
   exact hok.rest
 · by_cases hmn:m=n
   · rw[hmn];exact hform
   · exact AF (hslot m hm hmn) hd he (hok.form m hm) (hblk m hm hmn)
 · by_cases hmn:m=n
   · rw[hmn];exact hnd
   · rw[fU (hslot m hm hmn)];exact p1 m hm
 · by_cases hmn:m=n
   · subst hmn
     rw[fU (hslot k hk (fun h=>hne h.symm))] at h2
     exact hdj k hk (fun h=>hne h.symm) x h1 h2
   · rw[fU (hslot m hm hmn)] at h1
     by_cases hkn:k=n
     · subst hkn
       exact hdj m hm hmn x h2 h1
     · rw[fU (hslot k hk hkn)] at h2
       exact p2 m k hm hk hne x h1 h2
 · rw[hbit j hj]
   constructor
   · rintro(h | h | ⟨m,hm,hmn,h⟩)
     · exact .inl h
     · exact .inr ⟨n,hn,h⟩
     · exact .inr ⟨m,hm,by rw[fU (hslot m hm hmn)];exact h⟩
   · rintro(h | ⟨m,hm,h⟩)
     · exact .inl h
     · by_cases hmn:m=n
       · subst hmn
         exact .inr (.inl h)
       · rw[fU (hslot m hm hmn)] at h
         exact .inr (.inr ⟨m,hm,hmn,h⟩)
theorem iN {d:List UInt8} (hd:d.length=12288) {n:Nat} (hn:n<32) (k s:Nat) (b:Nat→Nat) (hk:k<256) (hs:s<65536) (hb : ∀ i,i<12→b i<256) :
 rk (cS d n k s b) n=k∧rs (cS d n k s b) n=s∧(∀ i,i<12→rb (cS d n k s b) n i=b i)∧rp (cS d n k s b) n=0:=by
 have hg : ∀ r,r<16→aJ (cS d n k s b) (1792+16*n+r)=aJ (fG k s b) r:=fun r hr=>by
  rw[bO hd hn,if_pos (by omega),show 1792+16*n+r - (1792+16*n)=r by omega]
 obtain⟨e0,e1,e2,e3⟩:=gL k s b
 refine⟨?_,?_,fun i hi=>?_,?_⟩
 · show aJ _ (1792+16*n+0)=_
   rw[hg 0 (by decide),e0,Nat.mod_eq_of_lt hk]
 · unfold rs
   rw[hg 1 (by decide),hg 2 (by decide),e1,e2]
   omega
 · show aJ _ (1792+16*n+(3+i))=_
   rw[hg (3+i) (by omega),jd k s b hi,Nat.mod_eq_of_lt (hb i hi)]
 · show aJ _ (1792+16*n+15)=_
   rw[hg 15 (by decide),e3]
theorem lr {b:List UInt8} {x:Nat} (h:cI b=some x):da b x=false:=by
 unfold cI at h
 have:=List.find?_some h
 simpa using this
theorem zV {d:List UInt8} (hok:eZ d) {n:Nat} (hn:n<32) (hk:rk d n=0):part d n 12 = []∧n≠0:=by
 have hf:=hok.form n hn
 unfold cH at hf
 rw[Bool.and_eq_true] at hf
 have h2:=hf.2
 split at h2
 · rename_i hz
   refine⟨?_,by simpa using h2⟩
   rw[List.eq_nil_iff_forall_not_mem]
   intro x hx
   obtain⟨h0,i,hi,rfl⟩:=dJ.1 hx
   exact h0 ((cW.1 hz).2.2 i hi)
 · rw[decide_eq_true_eq] at h2
   have:=h2.1
   omega
theorem oV {d e:List UInt8} (hd:d.length=12288) (he:e.length=12288) (h : ∀ m,1664≤m→m<1676→aJ e m=aJ d m):bA e=bA d:=ia (by omega) (by omega) h
theorem lp {d:List UInt8} (h0:dM d=0) {kind:Nat} (hk:kind=1∨kind=2) (he:(aN d kind).2.2=0) :
 dM (aN d kind).2.1=0∧(aN d kind).2.1.length=12288∧(∃ n x,(aN d kind).1=n∧n<32∧n≠0∧rk d n=0∧rk (aN d kind).2.1 n=kind∧
  (∀ m,m<32→m≠n→eh d (aN d kind).2.1 m∧∀ y∈part d m 12,y≠x∧∀ i,128*y≤i→i<128*y+128→aJ (aN d kind).2.1 i=aJ d i)):=by
 obtain⟨hd,hok⟩:=bl h0
 obtain⟨p1,p2⟩:=ln hok
 unfold aN at he ⊢
 have hne : ¬ dM d≠0:=by rw[h0];simp
 rw[if_neg hne] at he ⊢
 cases hf:fy d with
 | none=>rw[hf] at he;cases he
 | some n=>
  rw[hf] at he
  obtain⟨hn,hkn⟩:=jj hf
  obtain⟨hpn,hn0⟩:=zV hok hn hkn
  dsimp only at he ⊢
  by_cases h2:kind=2
  · subst h2
    rw[if_pos rfl] at he ⊢
    cases hx:cI (bA d) with
    | none=>rw[hx] at he;cases he
    | some x=>
     dsimp only
     obtain⟨hx1,hx2⟩:=dK hx
     have hxc:=lr hx
     have hbl:=aU hd
     have hpb:(cq (bA d) x true).length=12:=by rw[bz,hbl]
     have hsl:=aP hd hpb
     have hz:(List.replicate 128 (0:UInt8)).length=128:=List.length_replicate
     have htl:=cY hd hx2
     have htb : ∀ m,aJ (cG d x) m=if 128*x≤m∧m<128*x+128 then aJ (List.replicate 128 0) (m - 128*x) else if 1664≤m∧m<1676 then aJ (cq (bA d) x true) (m - 1664) else aJ d m:=fun m=>by
      unfold cG
      rw[cu (by rw[hz];omega),hz,aX hd hpb]
     have hpl:=bf htl hn 2 128 (fun i=>if i=0 then x else 0)
     obtain⟨f1,f2,f3,f4⟩:=iN htl hn 2 128 (fun i=>if i=0 then x else 0) (by decide) (by decide) (fun i _=>by split<;>omega)
     have hpb2:=bO htl hn 2 128 (fun i=>if i=0 then x else 0)
     generalize cS (cG d x) n 2 128 (fun i=>if i=0 then x else 0)=e at *
     have hnox : ∀ m,m<32→x ∉ part d m 12:=fun m hm hxm=>by
      have:=(ll hok x).2 (.inr ⟨m,hm,hxm⟩)
      rw[hxc] at this
      cases this
     have hpe:part e n 12 = [x]:=by
      have hfm:(List.range 12).map (rb e n)=(List.range 12).map fun i=>if i=0 then x else 0:=List.map_congr_left fun i hi=>f3 i (List.mem_range.1 hi)
      unfold part
      rw[hfm]
      have:(List.range 12).map (fun i=>if i=0 then x else 0)=x::List.replicate 11 0:=by simp[List.range_succ]
      rw[this,List.filter_cons_of_pos (by simp;omega)]
      simp
     have hslot : ∀ m,m<32→m≠n→eh d e m:=fun m hm hmn r hr=>by
      rw[hpb2,if_neg (by omega),htb,if_neg (by omega),if_neg (by omega)]
     have hblk : ∀ m,m<32→m≠n→∀ y∈part d m 12,∀ i,128*y≤i→i<128*y+128→aJ e i=aJ d i:=fun m hm hmn y hy i h1 h2=>by
      have hyx:y≠x:=fun h=>hnox m hm (h ▸ hy)
      have:=(kT hok hm hy).1
      rw[hpb2,if_neg (by omega),htb,if_neg (by omega),if_neg (by omega)]
     have hOk:eZ e:=by
      refine lO hok hd hpl hn (fun m hm=>?_) (fun m h1 h2=>?_) hslot ?_ hblk (by rw[hpe];simp) (fun m hm hmn y hy=>?_) (fun j hj=>?_)
      · rw[hpb2,if_neg (by omega),htb,if_neg (by omega),if_neg (by omega)]
      · rw[hpb2,if_neg (by omega),htb,if_neg (by omega),if_neg (by omega)]
      · unfold cH
        rw[f4,Bool.and_eq_true]
        refine⟨by simp,?_⟩
        have hnz : ¬ jB (rk e n) (rs e n) (rb e n)=true:=fun h=>by
         have:=(cW.1 h).1
         omega
        rw[if_neg hnz,decide_eq_true_eq]
        refine⟨.inr f1,by rw[f2];decide,fun _=>f1,fun i hi h=>?_,?_,.inr ⟨f2,by rw[f3 0 (by decide),if_pos rfl];omega⟩⟩
        · rw[f3 i hi] at h ⊢
          by_cases hi0:i=0
          · rw[if_pos hi0,f2]
            omega
          · rw[if_neg hi0] at h
            exact absurd rfl h
        · rw[f2]
          rfl
      · have:y=x:=by rw[hpe] at hy;simpa using hy
        rw[this]
        exact hnox m hm
      · have hbe:bA e=cq (bA d) x true:=by
         refine bW (by rw[aU hpl,hpb]) fun i hi=>?_
         rw[aU hpl] at hi
         unfold bA
         rw[a8 (by omega) hi,hpb2,if_neg (by omega),htb,if_neg (by omega),if_pos (by omega)]
         congr 1
         omega
        rw[hbe,kZ true (by rw[hbl];omega),hpe]
        by_cases hjx:j=x
        · subst hjx
          simp
        · rw[if_neg hjx,ll hok j]
          constructor
          · rintro(h | ⟨m,hm,h⟩)
            · exact .inl h
            · refine .inr (.inr ⟨m,hm,fun e=>?_,h⟩)
              rw[e,hpn] at h
              cases h
          · rintro(h | h | ⟨m,hm,_,h⟩)
            · exact .inl h
            · exact absurd (by simpa using h) hjx
            · exact .inr ⟨m,hm,h⟩
     exact⟨mj hpl hOk,hpl,n,x,rfl,hn,hn0,hkn,f1,fun m hm hmn=>⟨hslot m hm hmn,fun y hy=>⟨fun h=>hnox m hm (h ▸ hy),hblk m hm hmn y hy⟩⟩⟩
  · have hk1:kind=1:=hk.resolve_right h2
    subst hk1
    rw[if_neg (by decide)] at he ⊢
    dsimp only
    have hpl:=bf hd hn 1 0 (fun _=>0)
    obtain⟨f1,f2,f3,f4⟩:=iN hd hn 1 0 (fun _=>0) (by decide) (by decide) (fun i _=>by decide)
    have hpb2:=bO hd hn 1 0 (fun _=>0)
    generalize cS d n 1 0 (fun _=>0)=e at *
    have hpe:part e n 12 = []:=by
     rw[List.eq_nil_iff_forall_not_mem]
     intro y hy
     obtain⟨h0,i,hi,rfl⟩:=dJ.1 hy
     exact h0 (f3 i hi)
    have hslot : ∀ m,m<32→m≠n→eh d e m:=fun m hm hmn r hr=>by
     rw[hpb2,if_neg (by omega)]
    have hblk : ∀ m,m<32→m≠n→∀ y∈part d m 12,∀ i,128*y≤i→i<128*y+128→aJ e i=aJ d i:=fun m hm hmn y hy i h1 h2=>by
     have:=(kT hok hm hy).1
     rw[hpb2,if_neg (by omega)]
    have hOk:eZ e:=by
     refine lO hok hd hpl hn (fun m hm=>?_) (fun m h1 h2=>?_) hslot ?_ hblk (by rw[hpe];simp) (fun m hm hmn y hy=>by rw[hpe] at hy;cases hy) (fun j hj=>?_)
     · rw[hpb2,if_neg (by omega)]
     · rw[hpb2,if_neg (by omega)]
     · unfold cH
       rw[f4,Bool.and_eq_true]
       refine⟨by simp,?_⟩
       have hnz : ¬ jB (rk e n) (rs e n) (rb e n)=true:=fun h=>by
        have:=(cW.1 h).1
        omega
       rw[if_neg hnz,decide_eq_true_eq]
       refine⟨.inl f1,by rw[f2];decide,fun h=>absurd h hn0,fun i hi h=>absurd (f3 i hi) h,?_,.inl f1⟩
       rw[f2]
       rfl
     · rw[oV hd hpl fun m h1 h2=>by rw[hpb2,if_neg (by omega)],ll hok j,hpe]
       constructor
       · rintro(h | ⟨m,hm,h⟩)
         · exact .inl h
         · refine .inr (.inr ⟨m,hm,fun e=>?_,h⟩)
           rw[e,hpn] at h
           cases h
       · rintro(h | h | ⟨m,hm,_,h⟩)
         · exact .inl h
         · cases h
         · exact .inr ⟨m,hm,h⟩
    exact⟨mj hpl hOk,hpl,n,0,rfl,hn,hn0,hkn,f1,fun m hm hmn=>⟨hslot m hm hmn,fun y hy=>⟨by have:=(kT hok hm hy).1;omega,hblk m hm hmn y hy⟩⟩⟩
end Go.Proofs.YtfeoedkmndkbjaaGreatDoor
namespace Go.Proofs.YtfeoedkmndkbjaaGreatDoor
open Go Go.Sx
set_option maxRecDepth 100000
set_option maxHeartbeats 4000000
set_option linter.unusedVariables false
set_option linter.unusedSimpArgs false
theorem q_ (e:En):af Tryz.prog 70 [.agg ⟨gQ e⟩] (fun w=>True) (fun v F=>v = .bool (e.1 == [])):=by
 refine af.aF ab Tryz.func70 rfl (by decide) (n:=Tryz.f70.ntmps - 1) rfl rfl fun w0 av=>?_
 conv=>whnf
 intro b1
 conv=>whnf
 repeat (refine aa.of ?_;conv=>whnf)
 refine aj.ah (ai.fL (l:=e.1) (m:=[]) ?_)
 conv=>whnf
 repeat (refine aa.of ?_;conv=>whnf)
 exact⟨_,aq.refl _,rfl⟩
theorem lZ (f:FuncId) (p:En→Bool) (l:List En) (h:Hd) (hh:h.Ok l.length) (hl:l.length≤1000000) (hf : ∀ e∈l,af Tryz.prog f [.agg ⟨gQ e⟩] (fun w=>True) (fun v F=>v = .bool (p e))) :
 af Tryz.prog 69 [h.v l.length,.func (.func f) #[] #[]] (fun w=>aB w h.a (bV l)) (fun v F=>v = .int .i64 (ib (l.findIdx? p))):=by
 refine af.aF ab Tryz.func69 rfl (by decide) (n:=Tryz.f69.ntmps - 2) rfl rfl fun w0 av=>?_
 conv=>whnf
 refine aI.loop ab (ι:=Nat) ([5]++List.range' 8 11) (fun x=>x≤l.length∧∀ j (hj:j<l.length),j<x→p l[j]=false)
  (fun x=>[(8,.v (.int .i64 (x:Int)))]) (fun _=>[]) (fun _=>⟨fun w=>aB w h.a (bV l),[]⟩)
  (fun x=>l.length - x) 0 ⟨Nat.zero_le _,fun j hj h=>by omega⟩ ?_ rfl (aq.refl _) fun i hi=>?_
 · conv=>whnf
   repeat (first | exact aw.nil | refine aw.any ?_ | refine aw.cons ?_)
 obtain⟨hi,hall⟩:=hi
 conv=>whnf
 refine aH.split (fun hlt=>?_) (fun hlt=>?_)
 · have hlt':i<l.length:=by
    simp only[au,decide_eq_true_eq] at hlt
    omega
   conv=>whnf
   repeat (refine aa.of ?_;conv=>whnf)
   refine aj.ah (ai.index ab (t:=111) rfl rfl rfl (by omega) (by omega) hh.nil fun ad had=>?_)
   conv=>whnf
   repeat (refine aa.of ?_;conv=>whnf)
   refine aj.ah (ai.kC ab (t:=113) rfl rfl (ad:=ad) (k:=2*i) (L:=bV l) (m:=gQ l[i]) (.fact fun w hw=>had ▸ hw) (by congr 1;show Int.toNat (i:Int)*2=_;rw[Int.toNat_natCast];omega) (gn hlt') rfl ?_)
   conv=>whnf
   repeat (refine aa.of ?_;conv=>whnf)
   refine ak.val (hf _ (List.getElem_mem hlt')) (fun w hw=>trivial) (fun v D hv=>?_)
   generalize hq:p l[i]=q at hv
   subst hv
   cases q
   · conv=>whnf
     repeat (refine aa.of ?_;conv=>whnf)
     refine⟨i+1,⟨⟨hlt',fun j hj h=>?_⟩,by dsimp only;omega⟩,?_,?_,aq.refl _⟩
     · rcases Nat.lt_or_eq_of_le (Nat.lt_succ_iff.1 h) with h5 | h5
       · exact hall j hj h5
       · subst h5
         exact hq
     · conv=>whnf
       refine⟨?_,rfl⟩
       repeat (first | exact aw.nil | refine aw.any ?_ | refine aw.cons ?_ | refine aw.eq (by rw[wrap_i64 (by omega)];rfl) ?_)
     · conv=>whnf
       exact trivial
   · conv=>whnf
     repeat (refine aa.of ?_;conv=>whnf)
     refine⟨_,aq.refl _,?_⟩
     have:l.findIdx? p=some i:=by
      rw[List.findIdx?_eq_some_iff_getElem]
      exact⟨hlt',hq,fun j hj=>by simpa using hall j (by omega) hj⟩
     rw[this]
     rfl
 · have hie:i=l.length:=by
    simp only[au,decide_eq_false_iff_not] at hlt
    omega
   subst hie
   conv=>whnf
   repeat (refine aa.of ?_;conv=>whnf)
   refine⟨_,aq.refl _,?_⟩
   have:l.findIdx? p=none:=by
    rw[List.findIdx?_eq_none_iff]
    intro x hx
    obtain⟨j,hj,rfl⟩:=List.getElem_of_mem hx
    simpa using hall j hj hj
   rw[this]
   rfl
theorem mD (d:List UInt8) (H H':Nat→Hd) : ∀ (l:List (List UInt8)) (n:Nat),(aG d H).walk l n=(aG d H').walk l n
 | [],n=>rfl
 | s::r,n=>by
  have h:=mD d H H' r
  unfold Tree.walk
  rw[h]
  rfl
noncomputable def mH (d:List UInt8) (p:List UInt8) (kind:Int):Nat×List UInt8×Nat:=
 if aM d≠0 then (0,[],aM d) else
 if (aL p).2≠0 then (0,[],15) else
 if kind≠1∧kind≠2 then (0,[],1) else
 if (aL p).1 = [] then (0,[],9) else
 if ((T0 d).walk (aL p).1.dropLast 0).2≠0 then (0,[],((T0 d).walk (aL p).1.dropLast 0).2) else
 if ((T0 d).find ((T0 d).walk (aL p).1.dropLast 0).1 ((aL p).1.getLastD [])).2=0 then (0,[],9) else
 if ((T0 d).walk (aL p).1.dropLast 0).1 ∉ (T0 d).dl then (0,[],14) else
 match db ((T0 d).E ((T0 d).walk (aL p).1.dropLast 0).1) [] with
 | none=>(0,[],13)
 | some k=>if (aN d kind.toNat).2.2≠0 then (0,[],(aN d kind.toNat).2.2) else
  ((aN d kind.toNat).1,eX (aN d kind.toNat).2.1 ((T0 d).walk (aL p).1.dropLast 0).1 k (iF ((aL p).1.getLastD [],(aN d kind.toNat).1)),0)
theorem rZ {d:List UInt8} (h:aM d=0):dM d=0:=by
 unfold aM at h
 by_cases h0:dM d=0
 · exact h0
 · rw[if_pos h0] at h
   exact absurd h h0
theorem vw {T:Tree} {n:Nat} {s:List UInt8}:((T.find n s).2=14↔n ∉ T.dl):=by
 unfold Tree.find
 by_cases h:n∈T.dl
 · rw[if_pos h]
   split<;>simp[h]
 · rw[if_neg h]
   simp[h]
theorem yP (d:List UInt8) (h:Hd) (hh:h.Ok d.length) (hl:d.length≤1000000) (p:List UInt8) (hp:p.length≤200) (kind:Int) :
 af Tryz.prog 33 [h.v d.length,aC p,.int .i64 kind] (fun w=>By w h d) (qX (mH d p kind).1 (mH d p kind).2.1 (mH d p kind).2.2):=by
 obtain⟨M,hM⟩ : ∃ x,x=mH d p kind:=⟨_,rfl⟩
 rw[← hM]
 unfold mH at hM
 refine af.aF ab Tryz.func33 rfl (by decide) (n:=Tryz.f33.ntmps - 3) rfl rfl fun w0 av=>?_
 conv=>whnf
 have hos:=h_ d h hh hl
 rw[iu] at hos
 refine ak.pure hos (fun w hw=>hw) (fun v D hv=>?_)
 unfold lW at hv
 split at hv
 rotate_left
 · rename_i he
   rw[if_pos he] at hM
   rw[hM]
   obtain⟨q,rfl,rfl⟩:=hv
   generalize aM d=e at *
   conv=>whnf
   repeat (refine aa.of ?_;conv=>whnf)
   refine aH.yes (by simp[ar];omega) ?_
   conv=>whnf
   repeat (refine aa.of ?_;conv=>whnf)
   exact dj
 rename_i h38
 rw[if_neg (by rw[h38];simp)] at hM
 have hc0:=rZ h38
 obtain⟨bt,bm,H,hH,rfl,rfl⟩:=hv
 have hTok:=fp d hH
 have hTn:=gE d H
 have hwc:=mD d H fun _=>mf
 obtain⟨e0,he0⟩ : ∃ e:Nat,e=aM d:=⟨_,rfl⟩
 rw[← he0]
 rw[h38] at he0
 have hm1:(dv (h.v d.length) bm (aG d H).K 32)[1]? = some (.map (some bm)):=rfl
 have hsm:=eK p hp
 have hsn:=dH p
 have hse:=fv p
 have hsp:=iw p hp
 generalize aL p=sp at *
 obtain⟨names,se⟩:=sp
 dsimp only at hM hsm hsn hse
 conv=>whnf
 repeat (refine aa.of ?_;conv=>whnf)
 refine aH.no (by subst he0;simp[ar]) ?_
 conv=>whnf
 repeat (refine aa.of ?_;conv=>whnf)
 refine ak.pure hsp (fun w hw=>trivial) (fun v D hv=>?_)
 obtain⟨kn,rfl,hkn,rfl⟩:=hv
 dsimp only at hkn ⊢
 conv=>whnf
 repeat (refine aa.of ?_;conv=>whnf)
 refine aH.split (fun hs=>?_) (fun hs=>?_)
 · have hs':se≠0:=by
    simpa [ar] using hs
   rw[if_pos hs'] at hM
   rw[hM]
   have:se=15:=(hse.resolve_left hs').1
   subst this
   conv=>whnf
   repeat (refine aa.of ?_;conv=>whnf)
   exact dj
 have hs':se=0:=by
  simpa [ar] using hs
 rw[if_neg (by omega)] at hM
 conv=>whnf
 repeat (refine aa.of ?_;conv=>whnf)
 refine aH.split (fun hk=>?_) (fun hk=>?_)
 · have hk':kind≠1∧kind≠2:=by
    simpa [ar] using hk
   rw[if_pos hk'] at hM
   rw[hM]
   conv=>whnf
   repeat (refine aa.of ?_;conv=>whnf)
   exact dj
 have hk':kind=1∨kind=2:=by
  simp[ar] at hk
  omega
 rw[if_neg (by omega)] at hM
 conv=>whnf
 repeat (refine aa.of ?_;conv=>whnf)
 refine aH.split (fun hn=>?_) (fun hn=>?_)
 · have hn':names = []:=by
    simp[aD] at hn
    exact hn
   rw[if_pos hn'] at hM
   rw[hM]
   conv=>whnf
   repeat (refine aa.of ?_;conv=>whnf)
   exact dj
 have hn':names≠[]:=by
  simp[aD] at hn
  exact hn
 rw[if_neg hn'] at hM
 have hlen:0<names.length:=List.length_pos_iff.2 hn'
 have hw1:IntKind.i64.wrap ((names.length:Int) - 1)=((names.length - 1:Nat):Int):=by
  rw[wrap_i64 (by omega)]
  omega
 have hlast:=eG hn'
 have hlv:cK (names.getLastD [])=true:=hsn _ (List.mem_of_getElem? hlast)
 generalize names.getLastD []=last at *
 have hdl:names.dropLast=names.take (names.length - 1):=List.dropLast_eq_take
 rw[hdl] at hM
 conv=>whnf
 repeat (refine aa.of ?_;conv=>whnf)
 refine aj.ah (ai.index ab (t:=51) rfl rfl rfl (by rw[hw1];omega) (by rw[hw1];omega) hkn.nil fun ad had=>?_)
 conv=>whnf
 repeat (refine aa.of ?_;conv=>whnf)
 refine aj.ah (ai.load ab (t:=9) rfl rfl (ad:=ad) (k:=names.length - 1) (L:=names.map aC) (v:=aC last) (.fact fun w hw=>had ▸ hw.2) (by rw[hw1];simp) (by rw[List.getElem?_map,hlast];rfl) ?_)
 conv=>whnf
 repeat (refine aa.of ?_;conv=>whnf)
 refine aj.ah (ai.gA ab (t:=51) rfl rfl rfl (names.length - 1) hw1 (Nat.le_trans (by omega) hkn.cap) ?_)
 conv=>whnf
 repeat (refine aa.of ?_;conv=>whnf)
 have hfs:=mC (aG d H) hTok (h.v d.length) bt bm kn (names.take (names.length - 1)) ⟨fun h0=>by have:=hkn.nil h0;omega,by have:=hkn.cap;rw[List.length_take];omega⟩ (by rw[List.length_take];omega)
 rw[hwc,List.length_take,Nat.min_eq_left (by omega)] at hfs
 have hws:((T0 d).walk (names.take (names.length - 1)) 0).2=0→((T0 d).walk (names.take (names.length - 1)) 0).1≤1000000:=fun _=>by
  have : ∀ (l:List (List UInt8)) (n:Nat),n≤1000000→((T0 d).walk l n).1≤1000000:=by
   intro l
   induction l with
   | nil=>exact fun n hn=>hn
   | cons s r ih=>
    intro n hn
    unfold Tree.walk
    split
    · exact Nat.zero_le _
    · exact ih _ (oQ (pg d) n s)
  exact this _ 0 (Nat.zero_le _)
 have hT0:(aG d fun _=>mf)=T0 d:=rfl
 rw[hT0] at hfs
 generalize (T0 d).walk (names.take (names.length - 1)) 0=fr at *
 obtain⟨at0,fe⟩:=fr
 dsimp only at hM hfs hws
 refine ak.val hfs (fun w hw=>⟨hw.1.2,?_⟩) (fun v D hv=>?_)
 · have:=aB.take hw.2 (names.length - 1)
   unfold b_
   rw[List.map_take]
   exact this
 unfold fc at hv
 subst hv
 conv=>whnf
 repeat (refine aa.of ?_;conv=>whnf)
 refine aH.split (fun hf=>?_) (fun hf=>?_)
 · have hf':fe≠0:=by
    simp[ar] at hf
    omega
   rw[if_pos hf'] at hM
   rw[hM]
   conv=>whnf
   repeat (refine aa.of ?_;conv=>whnf)
   exact dj
 have hf':fe=0:=by
  simp[ar] at hf
  omega
 rw[if_neg (by omega)] at hM
 have hat:=hws hf'
 have hfd:=qi (aG d H) hTok (h.v d.length) bt bm at0 hat last
 have hfeq:(aG d H).find at0 last=(T0 d).find at0 last:=rfl
 have hferr:=@vw (T0 d) at0 last
 rw[hfeq] at hfd
 have hEq:(aG d H).E at0=(T0 d).E at0:=rfl
 have hdleq:(aG d H).dl=(T0 d).dl:=rfl
 have hcl:at0∈(T0 d).dl→at0<32∧rk d at0=2:=fun h=>bY.1 h
 have hEl:((T0 d).E at0).length=8:=(pg d).len at0
 generalize (T0 d).find at0 last=fr at *
 obtain⟨fn,fe2⟩:=fr
 dsimp only at hM hfd hferr
 conv=>whnf
 repeat (refine aa.of ?_;conv=>whnf)
 refine ak.val hfd (fun w hw=>hw.1.2) (fun v D hv=>?_)
 unfold fc at hv
 subst hv
 conv=>whnf
 repeat (refine aa.of ?_;conv=>whnf)
 refine aH.split (fun hq=>?_) (fun hq=>?_)
 · have hq':fe2=0:=by
    simp[aD] at hq
    omega
   rw[if_pos hq'] at hM
   rw[hM]
   conv=>whnf
   repeat (refine aa.of ?_;conv=>whnf)
   exact dj
 have hq':fe2≠0:=by
  simp[aD] at hq
  omega
 rw[if_neg hq'] at hM
 conv=>whnf
 repeat (refine aa.of ?_;conv=>whnf)
 refine aH.split (fun hq2=>?_) (fun hq2=>?_)
 · have hq2':fe2=14:=by
    simp[aD] at hq2
    omega
   rw[if_pos (hferr.1 hq2')] at hM
   rw[hM,hq2']
   conv=>whnf
   repeat (refine aa.of ?_;conv=>whnf)
   exact dj
 have hq2':fe2≠14:=by
  simp[aD] at hq2
  omega
 have hdin:at0∈(T0 d).dl:=Classical.byContradiction fun h=>hq2' (hferr.2 h)
 rw[if_neg (fun h=>h hdin)] at hM
 obtain⟨hat32,hatk⟩:=hcl hdin
 have hTA : ∀ w,bU (aG d H) (h.v d.length) bt bm w→aB w (some ⟨bt,0,none⟩) (dv (h.v d.length) bm (aG d H).K 32):=fun w hw=>hw.1
 have hTM : ∀ w,bU (aG d H) (h.v d.length) bt bm w→jm w bm ((aG d H).kv (aG d H).dl):=fun w hw=>hw.2.1
 have hTE : ∀ w,bU (aG d H) (h.v d.length) bt bm w→aB w (H at0).a (bV ((T0 d).E at0)):=fun w hw=>hw.2.2 at0 (hdleq ▸ hdin)
 have hHa:=hH at0
 have hkvk:=(aG d H).ld (aG d H).dl
 have hkvv : ∀ (i:Nat) u,((aG d H).kv (aG d H).dl)[i]? = some (aE at0,u)→u = .slice (H at0).a 8 (H at0).c:=(aG d H).qN
 have hkvi:=(aG d H).wz (l:=(aG d H).dl) (hdleq ▸ hdin:at0∈(aG d H).dl)
 generalize bU (aG d H) (h.v d.length) bt bm=TA at *
 generalize (aG d H).kv (aG d H).dl=KV at *
 generalize dv (h.v d.length) bm (aG d H).K 32=TC at *
 generalize (T0 d).E at0=es at *
 have hix:=lZ 70 (fun e=>e.1 == []) es (H at0) (by rw[hEl];exact hHa) (by omega) (fun e _=>q_ e)
 rw[hEl,show es.findIdx? (fun e=>e.1 == [])=db es [] from rfl] at hix
 conv=>whnf
 repeat (refine aa.of ?_;conv=>whnf)
 refine aj.ah (ai.bS ab (t:=114) rfl rfl (ad:=⟨bt,0,none⟩) (k:=1) (L:=TC) (v:=.map (some bm)) (.fact fun w hw=>hTA w hw.1.2) (fun _=>rfl) hm1 ?_)
 conv=>whnf
 repeat (refine aa.of ?_;conv=>whnf)
 refine aj.ah (ai.eg ab (t:=114) rfl rfl rfl rfl (df.fact fun w hw=>hTM w hw.1.2) rfl hkvk (v:=.slice (H at0).a 8 (H at0).c) hkvv hkvi ?_)
 conv=>whnf
 repeat (refine aa.of ?_;conv=>whnf)
 refine ak.val hix (fun w hw=>hTE w hw.1.2) (fun v D hv=>?_)
 cases hfi2:db es [] with
 | none=>
  rw[hfi2] at hM hv
  dsimp only at hM
  rw[hM]
  obtain⟨z2,hz2⟩ : ∃ z:Int,z=ib none:=⟨_,rfl⟩
  rw[← hz2] at hv
  have hz2:z2 = -1:=hz2
  subst hv
  conv=>whnf
  repeat (refine aa.of ?_;conv=>whnf)
  refine aH.yes (by subst hz2;simp[au]) ?_
  conv=>whnf
  repeat (refine aa.of ?_;conv=>whnf)
  exact dj
 | some q=>
 rw[hfi2] at hM hv
 dsimp only at hM
 have hq:=fH hfi2
 obtain⟨z2,hz2⟩ : ∃ z:Int,z=ib (some q):=⟨_,rfl⟩
 rw[← hz2] at hv
 have hz2:z2=(q:Int):=hz2
 subst hv
 conv=>whnf
 repeat (refine aa.of ?_;conv=>whnf)
 refine aH.no (by subst hz2;simp[au]) ?_
 conv=>whnf
 repeat (refine aa.of ?_;conv=>whnf)
 have hal:=vt d h hh hl kind.toNat (by omega)
 rw[show((kind.toNat:Nat):Int)=kind by omega] at hal
 have hao:=@lp d hc0 kind.toNat (by omega)
 have han:(aN d kind.toNat).1≤1000000:=by
  by_cases ha:(aN d kind.toNat).2.2=0
  · obtain⟨_,_,n,_,e1,e2,_⟩:=hao ha
    omega
  · unfold aN at ha ⊢
    split
    · exact Nat.zero_le _
    · split
      · exact Nat.zero_le _
      · rename_i n hn
        have:=(jj hn).1
        split
        · split
          · exact Nat.zero_le _
          · dsimp only;omega
        · dsimp only;omega
 generalize aN d kind.toNat=al at *
 obtain⟨n,d2,ae⟩:=al
 dsimp only at hM hal hao han
 refine ak.pure hal (fun w hw=>hw.1.1) (fun v D hv=>?_)
 obtain⟨k2,rfl,hk2,rfl⟩:=hv
 conv=>whnf
 repeat (refine aa.of ?_;conv=>whnf)
 refine aH.split (fun ha=>?_) (fun ha=>?_)
 · have ha':ae≠0:=by
    simp[ar] at ha
    omega
   rw[if_pos ha'] at hM
   rw[hM]
   conv=>whnf
   repeat (refine aa.of ?_;conv=>whnf)
   exact dj
 have ha':ae=0:=by
  simp[ar] at ha
  omega
 rw[if_neg (by omega)] at hM
 obtain⟨hc2,hd2,n',x',hn1,hn2,hn3,hn4,hn5,hn6⟩:=hao ha'
 have hne:at0≠n':=fun e=>by
  rw[e,hn4] at hatk
  cases hatk
 have hk2':rk d2 at0=2:=by
  rw[(dQ (hn6 at0 hat32 hne).1).1]
  exact hatk
 have hss:=wU d2 k2 hk2 hc2 at0 hat32 hk2' q (by omega) (last,n) (je hlv).2 han
 rw[hM,hz2]
 generalize eX d2 at0 q (iF (last,n))=dd at *
 conv=>whnf
 repeat (refine aa.of ?_;conv=>whnf)
 refine ak.pure hss (fun w hw=>hw.2) (fun v D hv=>?_)
 obtain⟨k3,rfl,hk3,rfl⟩:=hv
 conv=>whnf
 repeat (refine aa.of ?_;conv=>whnf)
 exact⟨_,aq.of_le ⟨by simp[Fx.and],fun w hw=>hw.2⟩,k3,rfl,hk3,rfl⟩
theorem bx {d:List UInt8} (h:aM d=0):dM d=0∧(T0 d).Good∧∀ n∈(T0 d).dl,cX (ay d n)=true:=by
 have h0:=rZ h
 have ho:=iu d
 rw[h] at ho
 unfold kq at ho
 rw[if_neg (show ¬ dM d≠0 by rw[h0];simp)] at ho
 by_cases hP:hJ d
 · rw[if_pos hP] at ho
   unfold Tree.res at ho
   by_cases hG:(aG d fun _=>mf).Good
   · have hG':(T0 d).Good:=hG
     exact⟨h0,hG,fun n hn=>e_.2 ⟨hP n hn,fun x hx=>(hG'.fine.ok n hn x (by rw[q9 hn];exact hx)).1⟩⟩
   · rw[if_neg hG] at ho
     cases ho
 · rw[if_neg hP] at ho
   cases ho
section
variable {d:List UInt8} (h38:aM d=0)
include h38
theorem fI {n:Nat} (hn:n∈(T0 d).dl):cT d n=((T0 d).E n,0):=by
 obtain⟨h0,hG,hE⟩:=bx h38
 obtain⟨h1,h2⟩:=bY.1 hn
 have hg:a7 d n=0:=(di h0).2 ⟨h1,by omega⟩
 unfold cT
 rw[if_neg (by rw[hg];simp)]
 rw[if_neg (show ¬ rk d (n:Int).toNat≠2 by rw[Int.toNat_natCast,h2];simp)]
 rw[Int.toNat_natCast]
 unfold eT
 rw[hE n hn]
 rfl
theorem jw {n:Nat} (hn:n<32) (hk:rk d n≠0) (hd:n ∉ (T0 d).dl):cT d n=([],14):=by
 obtain⟨h0,hG,hE⟩:=bx h38
 have hg:a7 d n=0:=(di h0).2 ⟨hn,hk⟩
 unfold cT
 rw[if_neg (by rw[hg];simp)]
 rw[if_pos (show rk d (n:Int).toNat≠2 by rw[Int.toNat_natCast];exact fun h=>hd (bY.2 ⟨hn,h⟩))]
theorem Cx {n k:Nat} (hn:n∈(T0 d).dl) {s:List UInt8} (hs:s≠[]) (hf:db ((T0 d).E n) s=some k) : ∃ h:k<((T0 d).E n).length,((T0 d).E n)[k].1=s∧((T0 d).E n)[k].2<32∧rk d ((T0 d).E n)[k].2≠0:=by
 obtain⟨h0,hG,hE⟩:=bx h38
 have hk:=fH hf
 unfold db at hf
 rw[List.findIdx?_eq_some_iff_getElem] at hf
 obtain⟨_,h1,_⟩:=hf
 have h1:((T0 d).E n)[k].1=s:=by simpa using h1
 have:=hG.fine.ok n hn ((T0 d).E n)[k].2 (by
  rw[(T0 d).kS hn]
  exact List.mem_map.2 ⟨_,List.mem_filter.2 ⟨List.getElem_mem hk,by simp[h1,hs]⟩,rfl⟩)
 exact⟨hk,h1,this.2.1,this.2.2⟩
theorem dY : ∀ (l:List (List UInt8)) (n:Nat),n<32→rk d n≠0→(∀ s∈l,s≠[])→(T0 d).walk l n=aT d l n∧((aT d l n).2=0→(aT d l n).1<32∧rk d (aT d l n).1≠0)
 | [],n,h1,h2,_=>⟨rfl,fun _=>⟨h1,h2⟩⟩
 | s::r,n,h1,h2,hs=>by
  unfold Tree.walk aT
  by_cases hd:n∈(T0 d).dl
  · rw[fI h38 hd]
    unfold Tree.find
    rw[if_pos hd]
    dsimp only
    cases hf:db ((T0 d).E n) s with
    | none=>simp
    | some k=>
     obtain⟨hk,_,hv1,hv2⟩:=Cx h38 hd (hs s (List.mem_cons_self ..)) hf
     have ih:=dY r ((T0 d).E n)[k].2 hv1 hv2 fun x hx=>hs x (List.mem_cons_of_mem _ hx)
     dsimp only
     rw[List.getElem?_eq_getElem hk]
     simpa using ih
  · rw[jw h38 h1 h2 hd]
    unfold Tree.find
    rw[if_neg hd]
    simp
end
theorem wW : ∀ {l:List En},(∀ e∈l,e.1.length≤14)→∀ {i r:Nat} (hi:i<l.length),r<16→aJ (il l) (16*i+r)=aJ (iF l[i]) r
 | [],_,i,r,hi,_=>by simp at hi
 | e::l,h,i,r,hi,hr=>by
  have e1:il (e::l)=iF e++il l:=rfl
  have hl:=jZ (h e (List.mem_cons_self ..))
  rw[e1]
  cases i with
  | zero=>
   unfold aJ
   rw[List.getD_eq_getElem?_getD,List.getElem?_append_left (by omega),← List.getD_eq_getElem?_getD,Nat.mul_zero,Nat.zero_add]
   rfl
  | succ i=>
   have:=wW (fun x hx=>h x (List.mem_cons_of_mem _ hx)) (l:=l) (i:=i) (by simpa using hi) hr
   unfold aJ at this ⊢
   rw[List.getD_eq_getElem?_getD,List.getElem?_append_right (by omega),← List.getD_eq_getElem?_getD,hl,show 16*(i+1)+r - 16=16*i+r by omega]
   exact this
theorem u_ {e:En} (h:e.1.length≤14) {r:Nat} (hr:r<16):aJ (iF e) r=if r=14 then e.2%256 else if r<e.1.length then aJ e.1 r else 0:=by
 have hz:(List.replicate 16 (0:UInt8)).length=16:=List.length_replicate
 unfold iF
 rw[dy (by rw[ct (by omega),hz];decide) (by omega),cu (by omega)]
 by_cases h1:r=14
 · rw[if_pos h1,if_pos h1]
 rw[if_neg h1,if_neg h1]
 by_cases h2:r<e.1.length
 · rw[if_pos (by omega),if_pos h2,Nat.sub_zero]
 · rw[if_neg (by omega),if_neg h2]
   unfold aJ
   rw[List.getD_eq_getElem?_getD,List.getElem?_replicate,if_pos hr]
   rfl
theorem C6 {c:List UInt8} (hc:c.length=128) {i:Nat} (hi:i<8) (h:ua c i) {r:Nat} (hr:r<16):aJ (iF (fZ c i)) r=aJ c (16*i+r):=by
 have hn:=j_ c 14 (16*i)
 have hl:(fZ c i).1.length=fV c (16*i) 14:=by
  show(cut _ _ _).length=_
  exact aZ (by omega)
 rw[u_ (by omega) hr]
 by_cases h1:r=14
 · rw[if_pos h1,h1]
   show aJ c (16*i+14)%256=_
   exact Nat.mod_eq_of_lt (bJ _ _)
 rw[if_neg h1,hl]
 by_cases h2:r<fV c (16*i) 14
 · rw[if_pos h2]
   show aJ (cut _ _ _) r=_
   exact a8 (by omega) h2
 · rw[if_neg h2]
   by_cases h3:r=15
   · rw[h3,h.pad]
   · exact(h.tail r (by omega) (by omega)).symm
theorem x9 {o data:List UInt8} {b:Nat→Nat} (hd:data.length≤128) (hb:128*b 0+128≤o.length) : ∀ {k:Nat},k≤data.length→∀ m,aJ (wd o b data k) m=if 128*b 0≤m∧m<128*b 0+k then aJ data (m - 128*b 0) else aJ o m
 | 0,_,m=>by
  rw[if_neg (by omega)]
  rfl
 | k+1,hk,m=>by
  unfold wd
  rw[show k/128=0 by omega,show k%128=k by omega,dy (by rw[ka];omega) (bJ _ _),x9 hd hb (show k≤data.length by omega)]
  by_cases h1:m=128*b 0+k
  · subst h1
    rw[if_pos rfl,if_pos (by omega),show 128*b 0+k - 128*b 0=k by omega]
  · rw[if_neg h1]
    by_cases h2:128*b 0≤m∧m<128*b 0+k
    · rw[if_pos h2,if_pos (by omega)]
    · rw[if_neg h2,if_neg (by omega)]
theorem jQ {e:List UInt8} (h0:dM e=0) {n:Nat} (hn:n<32) (hk:rk e n=2) {c:List UInt8} (hc:c.length=128) (hok : ∀ i,i<8→ua c i) (hcc : ∀ i,i<128→aJ e (128*rb e n 0+i)=aJ c i)
 {k:Nat} (hk8:k<8) {x:En} (hx:x.1.length≤14):bQ e n (il ((eA c 8).set k x))=(eX e n k (iF x),0):=by
 obtain⟨hd,hOk⟩:=bl h0
 obtain⟨hs,hb1,hb2⟩:=iy hOk hn hk
 have hg:a7 e n=0:=(di h0).2 ⟨hn,by omega⟩
 have hnames : ∀ y∈(eA c 8).set k x,y.1.length≤14:=fun y hy=>by
  rcases List.mem_or_eq_of_mem_set hy with h5 | h5
  · obtain⟨i,_,rfl⟩:=List.mem_map.1 h5
    have:=j_ c 14 (16*i)
    show(cut _ _ _).length≤14
    unfold cut
    rw[List.length_take]
    omega
  · rw[h5];exact hx
 have hel:((eA c 8).set k x).length=8:=by rw[List.length_set,ux]
 have hdl:(il ((eA c 8).set k x)).length=128:=by rw[kL hnames,hel]
 have hget : ∀ i (hi:i<8),((eA c 8).set k x)[i]'(by omega)=if i=k then x else fZ c i:=fun i hi=>by
  rw[List.getElem_set]
  by_cases hik:k=i
  · rw[if_pos hik,if_pos hik.symm]
  · rw[if_neg hik,if_neg fun h=>hik h.symm]
    simp[eA]
 have hbyt : ∀ i r,i<8→r<16→aJ (il ((eA c 8).set k x)) (16*i+r)=if i=k then aJ (iF x) r else aJ c (16*i+r):=fun i r hi hr=>by
  rw[wW hnames (by omega) hr,hget i hi]
  by_cases hik:i=k
  · rw[if_pos hik,if_pos hik]
  · rw[if_neg hik,if_neg hik,C6 hc hi (hok i hi) hr]
 have hexl:=jZ hx
 generalize il ((eA c 8).set k x)=data at *
 have hwt:wt e (rb e n) ((data.length+127)/128)=some (e,rb e n):=by
  rw[hdl,show(128+127)/128=0+1 from rfl]
  unfold wt
  unfold wt
  dsimp only
  rw[if_neg (by omega)]
 unfold bQ
 rw[if_neg (by rw[hg];simp),if_neg (by omega),if_pos hk,if_neg (by omega),hwt]
 dsimp only
 have hwl:(wd e (rb e n) data data.length).length=12288:=by rw[ka,hd]
 have hwb:=fun m=>x9 (o:=e) (b:=rb e n) (data:=data) (by omega) (by omega) (k:=data.length) (by omega) m
 generalize wd e (rb e n) data data.length=W at *
 rw[hdl] at hwb
 rw[hs,hdl,hk]
 have hwr:(eX e n k (iF x)).length=12288:=mT hd hOk hn hk hk8 hexl
 refine Prod.ext ?_ rfl
 dsimp only
 have hf:=hOk.form n hn
 unfold cH at hf
 rw[Bool.and_eq_true,decide_eq_true_eq] at hf
 refine bW (by rw[bf hwl hn,hwr]) fun m hm=>?_
 rw[bO hwl hn,hwb]
 unfold eX
 rw[cu (by omega),hexl]
 by_cases h1:1792+16*n≤m∧m<1792+16*n+16
 · rw[if_pos h1,if_neg (by omega)]
   have:=qZ hf.1 (r:=m - (1792+16*n)) (by omega)
   rw[hk,hs] at this
   rw[show max 128 128=128 from rfl,this]
   congr 1
   omega
 · rw[if_neg h1]
   by_cases h2:128*rb e n 0≤m∧m<128*rb e n 0+128
   · rw[if_pos h2]
     obtain⟨q,hq⟩ : ∃ q,q=m - 128*rb e n 0:=⟨_,rfl⟩
     have hq2:q=16*(q/16)+q%16:=by omega
     rw[← hq,hq2,hbyt (q/16) (q%16) (by omega) (by omega)]
     by_cases h3:q/16=k
     · rw[if_pos h3,if_pos (by omega)]
       congr 1
       omega
     · rw[if_neg h3,if_neg (by omega),← hq2,← hcc q (by omega)]
       congr 1
       omega
   · rw[if_neg h2,if_neg (by omega)]
theorem CH (d p:List UInt8) (kind:Int):mH d p kind=bE d p kind:=by
 unfold mH bE
 by_cases h38:aM d=0
 rotate_left
 · rw[if_pos h38,if_pos h38]
 have hne : ¬ aM d≠0:=by rw[h38];simp
 rw[if_neg hne,if_neg hne]
 obtain⟨h0,hG,hE⟩:=bx h38
 obtain⟨hd,hok⟩:=bl h0
 have hsn:=dH p
 generalize aL p=sp at *
 obtain⟨names,se⟩:=sp
 dsimp only at hsn ⊢
 by_cases hs:se≠0
 · rw[if_pos hs,if_pos hs]
 rw[if_neg hs,if_neg hs]
 by_cases hk:kind≠1∧kind≠2
 · rw[if_pos hk,if_pos hk]
 rw[if_neg hk,if_neg hk]
 by_cases hn:names = []
 · rw[if_pos hn,if_pos hn]
 rw[if_neg hn,if_neg hn]
 have hvn : ∀ s∈names,s≠[]:=fun s hs h=>by
  have:=hsn s hs
  rw[h] at this
  cases this
 have hroot:=j2 h0
 obtain⟨hr1,hr2⟩:=bY.1 hroot
 obtain⟨hw1,hw2⟩:=dY h38 names.dropLast 0 hr1 (by omega) fun s hs=>hvn s (List.dropLast_subset _ hs)
 have hlast:=eG hn
 have hlv:cK (names.getLastD [])=true:=hsn _ (List.mem_of_getElem? hlast)
 have hln:names.getLastD []≠[]:=hvn _ (List.mem_of_getElem? hlast)
 rw[hw1]
 generalize aT d names.dropLast 0=fr at *
 obtain⟨at0,fe⟩:=fr
 dsimp only at hw2 ⊢
 by_cases hf:fe≠0
 · rw[if_pos hf,if_pos hf]
 rw[if_neg hf,if_neg hf]
 obtain⟨ha1,ha2⟩:=hw2 (by omega)
 generalize names.getLastD []=last at *
 by_cases hdl:at0∈(T0 d).dl
 · have hdr:=fI h38 hdl
   rw[hdr]
   dsimp only
   rw[if_neg (show ¬ ((0:Nat)≠0) by decide),if_neg (show ¬ at0 ∉ (T0 d).dl from fun h=>h hdl)]
   have hfind:((T0 d).find at0 last).2=0↔db ((T0 d).E at0) last≠none:=by
    unfold Tree.find
    rw[if_pos hdl]
    cases db ((T0 d).E at0) last<;>simp
   by_cases hq:db ((T0 d).E at0) last≠none
   · rw[if_pos (hfind.2 hq),if_pos hq]
   rw[if_neg fun h=>hq (hfind.1 h),if_neg hq]
   cases hfe:db ((T0 d).E at0) [] with
   | none=>rfl
   | some k=>
    dsimp only
    have hkl:=fH hfe
    rw[(pg d).len] at hkl
    by_cases ha:(aN d kind.toNat).2.2≠0
    · rw[if_pos ha,if_pos ha]
    rw[if_neg ha,if_neg ha]
    obtain⟨g1,g2,n',x',g3,g4,g5,g6,g7,g8⟩:=lp h0 (kind:=kind.toNat) (by omega) (by omega)
    obtain⟨hat1,hat2⟩:=bY.1 hdl
    have hne2:at0≠n':=fun e=>by
     rw[e,g6] at hat2
     cases hat2
    obtain⟨hss,hbb⟩:=g8 at0 hat1 hne2
    obtain⟨q1,q2,q3,q4⟩:=dQ hss
    obtain⟨hcc,hb96⟩:=gJ h0 hat1 hat2
    obtain⟨_,hb18,_⟩:=iy hok hat1 hat2
    have hcl:(ay d at0).length=128:=by rw[hcc];exact aZ (by omega)
    have hw:=jQ g1 hat1 (by rw[q1];exact hat2) hcl (ec.1 (hE at0 hdl)) (fun i hi=>by
     rw[q3 0 (by decide),(hbb (rb d at0 0) (dJ.2 ⟨by omega,0,by decide,rfl⟩)).2 _ (by omega) (by omega),hcc,a8 (by omega) hi]) hkl (x:=(last,(aN d kind.toNat).1)) (je hlv).2
    have hEs:(T0 d).E at0=eA (ay d at0) 8:=rfl
    rw[hEs,hw]
 · have hdr:=jw h38 ha1 ha2 hdl
   rw[hdr]
   dsimp only
   have hfind:((T0 d).find at0 last).2≠0:=by
    rw[vw.2 hdl]
    decide
   rw[if_neg hfind,if_pos hdl,if_pos (by decide)]
end Go.Proofs.YtfeoedkmndkbjaaGreatDoor
namespace Go.Proofs.YtfeoedkmndkbjaaGreatDoor
open Go Go.Sx
set_option maxRecDepth 100000
set_option maxHeartbeats 4000000
set_option linter.unusedVariables false
set_option linter.unusedSimpArgs false
theorem gg (d:List UInt8) (h:Hd) (hh:h.Ok d.length) (hl:d.length≤1000000):af Tryz.prog 21 [h.v d.length] (fun w=>By w h d) (fun v F=>v = .int .i64 (aM d:Int)):=by
 have ho:=h_ d h hh hl
 rw[iu] at ho
 refine af.aF ab Tryz.func21 rfl (by decide) (n:=Tryz.f21.ntmps - 1) rfl rfl fun w0 av=>?_
 generalize aM d=e at *
 conv=>whnf
 repeat (refine aa.of ?_;conv=>whnf)
 refine ak.val ho (fun w hw=>hw) (fun v D hv=>?_)
 obtain⟨p,rfl⟩ : ∃ p,v = .tuple #[.pointer p,.int .i64 (e:Int)]:=by
  unfold lW at hv
  split at hv
  · obtain⟨bt,bm,H,_,rfl,_⟩:=hv
    exact⟨_,rfl⟩
  · obtain⟨p,rfl,_⟩:=hv
    exact⟨p,rfl⟩
 conv=>whnf
 repeat (refine aa.of ?_;conv=>whnf)
 exact⟨_,aq.refl _,rfl⟩
theorem uG (d:List UInt8) (H:Nat→Hd) (n:Nat) (s:List UInt8):(aG d H).find n s=(T0 d).find n s:=rfl
theorem nt (d:List UInt8) (H:Nat→Hd) : ∀ (l:List (List UInt8)) (n:Nat),(aG d H).walk l n=(T0 d).walk l n
 | [],n=>rfl
 | s::r,n=>by
  unfold Tree.walk
  rw[uG,nt d H r]
theorem y5 {d:List UInt8} (h38:aM d=0) (p:List UInt8):cA d p=if (aL p).2≠0 then (0,15) else (T0 d).walk (aL p).1 0:=by
 obtain⟨h0,hG,hE⟩:=bx h38
 obtain⟨hr1,hr2⟩:=bY.1 (j2 h0)
 have hsn:=dH p
 unfold cA
 rw[if_neg (show ¬ aM d≠0 by rw[h38];simp)]
 split
 · rfl
 · exact((dY h38 (aL p).1 0 hr1 (by omega) fun s hs h=>by
    have:=hsn s hs
    rw[h] at this
    cases this).1).symm
theorem mo (d:List UInt8) (h:Hd) (hh:h.Ok d.length) (hl:d.length≤1000000) (p:List UInt8) (hp:p.length≤200) :
 af Tryz.prog 45 [h.v d.length,aC p] (fun w=>By w h d) (fc (cA d p).1 (cA d p).2):=by
 obtain⟨M,hM⟩ : ∃ x,x=cA d p:=⟨_,rfl⟩
 rw[← hM]
 have hos:=h_ d h hh hl
 rw[iu] at hos
 refine af.aF ab Tryz.func45 rfl (by decide) (n:=Tryz.f45.ntmps - 2) rfl rfl fun w0 av=>?_
 conv=>whnf
 refine ak.pure hos (fun w hw=>hw) (fun v D hv=>?_)
 unfold lW at hv
 by_cases h0:aM d=0
 rotate_left
 · rw[if_neg h0] at hv
   obtain⟨q,rfl,rfl⟩:=hv
   have:M=(0,aM d):=by
    rw[hM]
    unfold cA
    rw[if_pos h0]
   rw[this]
   generalize aM d=e at *
   conv=>whnf
   repeat (refine aa.of ?_;conv=>whnf)
   refine aH.yes (by simp[ar];omega) ?_
   conv=>whnf
   repeat (refine aa.of ?_;conv=>whnf)
   exact⟨_,aq.refl _,rfl⟩
 rw[y5 h0] at hM
 rw[if_pos h0] at hv
 obtain⟨bt,bm,H,hH,rfl,rfl⟩:=hv
 have hT:=fp d hH
 have hwe:=nt d H (aL p).1 0
 rw[← hwe] at hM
 generalize aG d H=T at *
 generalize aM d=e at *
 subst h0
 clear hos hwe
 conv=>whnf
 repeat (refine aa.of ?_;conv=>whnf)
 refine aH.no (by simp[ar]) ?_
 conv=>whnf
 repeat (refine aa.of ?_;conv=>whnf)
 refine ak.pure (iw p hp) (fun w hw=>trivial) (fun v D hv=>?_)
 obtain⟨kn,rfl,hkn,rfl⟩:=hv
 have hsm:=eK p hp
 have hse:=fv p
 generalize aL p=sp at *
 obtain⟨names,se⟩:=sp
 dsimp only at hkn hM hsm hse ⊢
 conv=>whnf
 repeat (refine aa.of ?_;conv=>whnf)
 refine aH.split (fun hs=>?_) (fun hs=>?_)
 · have hs':se≠0:=by
    simp[ar] at hs
    omega
   rw[if_pos hs'] at hM
   have hs15:se=15:=by omega
   rw[hM]
   conv=>whnf
   repeat (refine aa.of ?_;conv=>whnf)
   refine⟨_,aq.refl _,?_⟩
   unfold fc
   rw[hs15]
   rfl
 · have hs' : ¬ se≠0:=by
    simp[ar] at hs
    omega
   rw[if_neg hs'] at hM
   have htw:=mC T hT (h.v d.length) bt bm kn names hkn hsm
   rw[← hM] at htw
   conv=>whnf
   repeat (refine aa.of ?_;conv=>whnf)
   refine ak.val htw (fun w hw=>⟨hw.1.2,hw.2⟩) (fun v D hv=>?_)
   unfold fc at hv
   subst hv
   conv=>whnf
   repeat (refine aa.of ?_;conv=>whnf)
   exact⟨_,aq.refl _,rfl⟩
noncomputable def oy (d:List UInt8) (n:Int):Nat:=if aM d≠0 then aM d else (cT d n).2
def tv (X:Value) (d:List UInt8) (e:Nat) (v:Value) (F:Fx):Prop:=
 if e=0 then ∃ bt bm H,(∀ n,(H n).Ok 8)∧v = .tuple #[.pointer (some ⟨bt,0,none⟩),.int .i64 (e:Int)]∧F=⟨bU (aG d H) X bt bm,[]⟩
 else ∃ p,v = .tuple #[.pointer p,.int .i64 (e:Int)]∧F=⟨fun _=>True,[]⟩
theorem B4 (d:List UInt8) (n:Int):(cT d n).2=if a7 d n≠0 then a7 d n else if rk d n.toNat≠2 then 14 else 0:=by
 unfold cT
 split
 · rfl
 · split
   · rfl
   · rfl
theorem rQ (d:List UInt8) (h:Hd) (hh:h.Ok d.length) (hl:d.length≤1000000) (n:Int) :
 af Tryz.prog 96 [h.v d.length,.int .i64 n] (fun w=>By w h d) (tv (h.v d.length) d (oy d n)):=by
 have hos:=h_ d h hh hl
 rw[iu] at hos
 obtain⟨E,hE⟩ : ∃ e,e=oy d n:=⟨_,rfl⟩
 rw[← hE]
 unfold oy at hE
 refine af.aF ab Tryz.func96 rfl (by decide) (n:=Tryz.f96.ntmps - 2) rfl rfl fun w0 av=>?_
 conv=>whnf
 refine ak.pure hos (fun w hw=>hw) (fun v D hv=>?_)
 unfold lW at hv
 by_cases h0:aM d=0
 rotate_left
 · rw[if_neg h0] at hv
   rw[if_pos h0] at hE
   obtain⟨q,rfl,rfl⟩:=hv
   rw[← hE] at h0 ⊢
   conv=>whnf
   repeat (refine aa.of ?_;conv=>whnf)
   refine aH.yes (by simp[ar];omega) ?_
   conv=>whnf
   repeat (refine aa.of ?_;conv=>whnf)
   refine⟨⟨fun _=>True,[]⟩,aq.bare fun _ _=>trivial,?_⟩
   unfold tv
   rw[if_neg h0]
   exact⟨_,rfl,rfl⟩
 rw[if_pos h0] at hv
 rw[if_neg (by rw[h0];simp),B4] at hE
 obtain⟨bt,bm,H,hH,rfl,rfl⟩:=hv
 have hG:=jl d h hh hl n
 obtain⟨k,s,b,hL,hE1⟩:=cJ d n
 rw[hL] at hG
 have hfin : ∀ D:World→Prop,(∀ w,D w→E=0→bU (aG d H) (h.v d.length) bt bm w)→∃ F',aq ⟨D,[]⟩ F'∧tv (h.v d.length) d E (.tuple #[.pointer (some ⟨bt,0,none⟩),.int .i64 (E:Int)]) F':=fun D hD=>by
  by_cases hE5:E=0
  · refine⟨⟨bU (aG d H) (h.v d.length) bt bm,[]⟩,aq.imp fun w hw=>hD w hw hE5,?_⟩
    unfold tv
    rw[if_pos hE5]
    exact⟨bt,bm,H,hH,rfl,rfl⟩
  · refine⟨⟨fun _=>True,[]⟩,aq.imp fun w hw=>trivial,?_⟩
    unfold tv
    rw[if_neg hE5]
    exact⟨some ⟨bt,0,none⟩,rfl,rfl⟩
 generalize a7 d n=g at *
 generalize rk d n.toNat=kd at *
 generalize aG d H=T at *
 generalize aM d=c at *
 subst h0
 conv=>whnf
 repeat (refine aa.of ?_;conv=>whnf)
 refine aH.no (by simp[ar]) ?_
 conv=>whnf
 repeat (refine aa.of ?_;conv=>whnf)
 refine ak.val hG (fun w hw=>hw.1) (fun v D hv=>?_)
 subst hv
 conv=>whnf
 repeat (refine aa.of ?_;conv=>whnf)
 intro b8
 conv=>whnf
 repeat (refine aa.of ?_;conv=>whnf)
 have hcond:(cN (g:Int) 0&&iZ (k:Int) 2)=decide (g=0∧kd≠2):=by
  rw[aD,ar,Bool.eq_iff_iff]
  simp only[Bool.and_eq_true,decide_eq_true_eq,beq_iff_eq,bne_iff_ne,ne_eq]
  constructor
  · rintro⟨h1,h2⟩
    have hg:g=0:=by omega
    exact⟨hg,by rw[← (hE1 hg).1];omega⟩
  · rintro⟨h1,h2⟩
    have:=(hE1 h1).1
    exact⟨by omega,by omega⟩
 rw[hcond]
 refine aH.split (fun hq=>?_) (fun hq=>?_)
 · have hq':g=0∧kd≠2:=by simpa using hq
   have hEE:E=14:=by rw[hE,if_neg (by omega),if_pos hq'.2]
   subst hEE
   conv=>whnf
   repeat (refine aa.of ?_;conv=>whnf)
   exact hfin _ fun w hw h=>by cases h
 · have hq' : ¬ (g=0∧kd≠2):=by simpa using hq
   have hEE:E=g:=by
    rw[hE]
    by_cases h1:g=0
    · rw[if_neg (by omega),if_neg (by omega),h1]
    · rw[if_pos h1]
   rw[hEE] at hfin ⊢
   conv=>whnf
   repeat (refine aa.of ?_;conv=>whnf)
   exact hfin _ fun w hw h=>hw.2
end Go.Proofs.YtfeoedkmndkbjaaGreatDoor
namespace Go.Proofs
open Go.Shelf
def Tryz.xd:Go.Shelf.Ren:=⟨fun | 190=>135 | 125=>160 | 258=>159 | 128=>183 | 129=>184 | 302=>174 | 303=>175 | 304=>176 | 305=>177 | 306=>178 | 307=>179 | 308=>180 | 309=>181 | 310=>182 | 333=>193 | 329=>194 | 330=>195 | 334=>196 | 335=>197 | 336=>198 | 344=>205 | n=>n,fun | 31=>51 | 9=>9 | 3=>3 | 46=>190 | 0=>0 | 51=>230 | 53=>178 | 4=>4 | 183=>223 | 182=>222 | 131=>227 | 5=>5 | 218=>237 | 222=>241 | 228=>243 | 229=>244 | n=>n,fun | n=>n⟩
theorem Tryz.zm:Go.Proofs.Lays.n190 Tryz.prog Tryz.xd:={
 mixed:=by kernel_rfl
 f125:=Tryz.func160.trans (congrArg some (by kernel_rfl))
 f128:=Tryz.func183.trans (congrArg some (by kernel_rfl))
 f129:=Tryz.func184.trans (congrArg some (by kernel_rfl))
 f190:=Tryz.func135.trans (congrArg some (by kernel_rfl))
 f258:=Tryz.func159.trans (congrArg some (by kernel_rfl))
 f302:=Tryz.func174.trans (congrArg some (by kernel_rfl))
 f303:=Tryz.func175.trans (congrArg some (by kernel_rfl))
 f304:=Tryz.func176.trans (congrArg some (by kernel_rfl))
 f305:=Tryz.func177.trans (congrArg some (by kernel_rfl))
 f306:=Tryz.func178.trans (congrArg some (by kernel_rfl))
 f307:=Tryz.func179.trans (congrArg some (by kernel_rfl))
 f308:=Tryz.func180.trans (congrArg some (by kernel_rfl))
 f309:=Tryz.func181.trans (congrArg some (by kernel_rfl))
 f310:=Tryz.func182.trans (congrArg some (by kernel_rfl))
 f329:=Tryz.func194.trans (congrArg some (by kernel_rfl))
 f330:=Tryz.func195.trans (congrArg some (by kernel_rfl))
 f333:=Tryz.func193.trans (congrArg some (by kernel_rfl))
 f334:=Tryz.func196.trans (congrArg some (by kernel_rfl))
 f335:=Tryz.func197.trans (congrArg some (by kernel_rfl))
 f336:=Tryz.func198.trans (congrArg some (by kernel_rfl))
 f344:=Tryz.func205.trans (congrArg some (by kernel_rfl))
 t0:=Tryz.underlying0
 a0:=Tryz.isAgg0
 z0:=Tryz.sizeOf0
 v0:=Tryz.zeroValue0
 t3:=Tryz.underlying3
 a3:=Tryz.isAgg3
 z3:=Tryz.sizeOf3
 v3:=Tryz.zeroValue3
 t4:=Tryz.underlying4
 a4:=Tryz.isAgg4
 z4:=Tryz.sizeOf4
 v4:=Tryz.zeroValue4
 t5:=Tryz.underlying5
 a5:=Tryz.isAgg5
 z5:=Tryz.sizeOf5
 v5:=Tryz.zeroValue5
 t9:=Tryz.underlying9
 a9:=Tryz.isAgg9
 z9:=Tryz.sizeOf9
 v9:=Tryz.zeroValue9
 t31:=Tryz.underlying51
 a31:=Tryz.isAgg51
 z31:=Tryz.sizeOf51
 v31:=Tryz.zeroValue51
 t46:=Tryz.underlying190
 a46:=Tryz.isAgg190
 z46:=Tryz.sizeOf190
 v46:=Tryz.zeroValue190
 t51:=Tryz.underlying230
 a51:=Tryz.isAgg230
 z51:=Tryz.sizeOf230
 v51:=Tryz.zeroValue230
 t53:=Tryz.underlying178
 a53:=Tryz.isAgg178
 z53:=Tryz.sizeOf178
 v53:=Tryz.zeroValue178
 t131:=Tryz.underlying227
 a131:=Tryz.isAgg227
 z131:=Tryz.sizeOf227
 v131:=Tryz.zeroValue227
 t182:=Tryz.underlying222
 a182:=Tryz.isAgg222
 z182:=Tryz.sizeOf222
 v182:=Tryz.zeroValue222
 t183:=Tryz.underlying223
 a183:=Tryz.isAgg223
 z183:=Tryz.sizeOf223
 v183:=Tryz.zeroValue223
 t218:=Tryz.underlying237
 a218:=Tryz.isAgg237
 z218:=Tryz.sizeOf237
 v218:=Tryz.zeroValue237
 t222:=Tryz.underlying241
 a222:=Tryz.isAgg241
 z222:=Tryz.sizeOf241
 v222:=Tryz.zeroValue241
 t228:=Tryz.underlying243
 a228:=Tryz.isAgg243
 z228:=Tryz.sizeOf243
 v228:=Tryz.zeroValue243
 t229:=Tryz.underlying244
 a229:=Tryz.isAgg244
 z229:=Tryz.sizeOf244
 v229:=Tryz.zeroValue244 }
open Go.Sort Go.RowKit in
theorem Tryz.slices_Sort_string (blk off cap:Nat) (ss:List (List UInt8)) (w:World) (hH:Holds encStr w blk off ss.toArray) (hblk:blk<w.heap.size) (hsz:ss.length<4611686018427387904) :
 Calls Tryz.prog 135 #[.slice (some ⟨blk,off,none⟩) ss.length cap] w fun e w'=>
  e = .returned (.tuple #[])∧∃ n os,w'=grow (putRow encStr (Sort.ahead w n) blk off (ss.mergeSort fun x y=>decide (x≤y)).toArray) os:=Any.slices_Sort_string Tryz.zm blk off cap ss w hH hblk hsz
open Go.RowKit Go.Sort in
theorem Tryz.slices_Sort_string_none (p:Option Addr) (cap:Nat) (w:World) :
 Calls Tryz.prog 135 #[.slice p 0 cap] w fun e w'=>e = .returned (.tuple #[])∧w'=w:=Any.slices_Sort_string_none Tryz.zm p cap w
def Tryz.rz:Go.Shelf.Ren:=⟨fun | 7=>98 | 10=>136 | n=>n,fun | 23=>146 | 26=>9 | 3=>4 | 28=>149 | 0=>0 | 27=>148 | 33=>165 | 4=>4 | n=>n,fun | n=>n⟩
theorem Tryz.DW:Go.Proofs.SlLaysZ.n7 Tryz.prog Tryz.rz:={
 mixed:=by kernel_rfl
 f7:=⟨Tryz.f98.name,by decide,Tryz.func98.trans (congrArg some (by kernel_rfl))⟩
 f10:=⟨Tryz.f136.name,by decide,Tryz.func136.trans (congrArg some (by kernel_rfl))⟩
 t0:=Tryz.underlying0
 a0:=Tryz.isAgg0
 z0:=Tryz.sizeOf0
 v0:=Tryz.zeroValue0
 t4:=Tryz.underlying4
 a4:=Tryz.isAgg4
 z4:=Tryz.sizeOf4
 v4:=Tryz.zeroValue4
 t23:=Tryz.underlying146
 a23:=Tryz.isAgg146
 z23:=Tryz.sizeOf146
 v23:=Tryz.zeroValue146
 t26:=Tryz.underlying9
 a26:=Tryz.isAgg9
 z26:=Tryz.sizeOf9
 v26:=Tryz.zeroValue9
 t27:=Tryz.underlying148
 a27:=Tryz.isAgg148
 z27:=Tryz.sizeOf148
 v27:=Tryz.zeroValue148
 t28:=Tryz.underlying149
 a28:=Tryz.isAgg149
 z28:=Tryz.sizeOf149
 v28:=Tryz.zeroValue149
 t33:=Tryz.underlying165
 a33:=Tryz.isAgg165
 z33:=Tryz.sizeOf165
 v33:=Tryz.zeroValue165 }
def Tryz.ng:Go.Shelf.Ren:=⟨fun | 6=>97 | 8=>134 | 9=>135 | 11=>158 | 13=>160 | 12=>159 | 23=>183 | 24=>184 | 14=>174 | 15=>175 | 16=>176 | 17=>177 | 18=>178 | 19=>179 | 20=>180 | 21=>181 | 22=>182 | 25=>193 | 26=>194 | 27=>195 | 28=>196 | 29=>197 | 30=>198 | 31=>205 | n=>n,fun | 26=>9 | 28=>149 | 24=>51 | 0=>0 | 3=>3 | 37=>190 | 48=>230 | 50=>178 | 4=>4 | 40=>223 | 39=>222 | 45=>227 | 5=>5 | 9=>9 | 51=>237 | 55=>241 | 57=>243 | 58=>244 | 33=>165 | n=>n,fun | n=>n⟩
theorem Tryz.Bb:Go.Proofs.SlLaysZ.n6 Tryz.prog Tryz.ng:={
 mixed:=by kernel_rfl
 f6:=⟨Tryz.f97.name,by decide,Tryz.func97.trans (congrArg some (by kernel_rfl))⟩
 f8:=⟨Tryz.f134.name,by decide,Tryz.func134.trans (congrArg some (by kernel_rfl))⟩
 f11:=⟨Tryz.f158.name,by decide,Tryz.func158.trans (congrArg some (by kernel_rfl))⟩
 t0:=Tryz.underlying0
 a0:=Tryz.isAgg0
 z0:=Tryz.sizeOf0
 v0:=Tryz.zeroValue0
 t24:=Tryz.underlying51
 a24:=Tryz.isAgg51
 z24:=Tryz.sizeOf51
 v24:=Tryz.zeroValue51
 t26:=Tryz.underlying9
 a26:=Tryz.isAgg9
 z26:=Tryz.sizeOf9
 v26:=Tryz.zeroValue9
 t28:=Tryz.underlying149
 a28:=Tryz.isAgg149
 z28:=Tryz.sizeOf149
 v28:=Tryz.zeroValue149
 i26:=by kernel_rfl }
end Go.Proofs
namespace Go.Proofs.YtfeoedkmndkbjaaGreatDoor
open Go Go.Sx
set_option maxRecDepth 100000
set_option maxHeartbeats 4000000
set_option linter.unusedVariables false
set_option linter.unusedSimpArgs false
noncomputable def lY (l:List (List UInt8)):List (List UInt8):=l.mergeSort fun x y=>decide (x≤y)
theorem ta (l:List (List UInt8)):(lY l).length=l.length:=List.length_mergeSort l
theorem jM (l:List (List UInt8)):(lY l).Perm l:=List.mergeSort_perm l _
theorem rN (l:List (List UInt8)):(lY l).Pairwise fun x y=>decide (x≤y)=true:=
 List.pairwise_mergeSort (le:=fun x y=>decide (x≤y)) (fun a b c h1 h2=>decide_eq_true (List.le_trans (of_decide_eq_true h1) (of_decide_eq_true h2)))
  (fun a b=>by
   rcases List.le_total a b with h | h
   · rw[decide_eq_true h];rfl
   · rw[decide_eq_true h,Bool.or_true]) l
theorem s9 {l m:List (List UInt8)} (hl:l.Pairwise fun x y=>decide (x≤y)=true) (hm:m.Pairwise fun x y=>decide (x≤y)=true) (h:l.Perm m):l=m:=
 List.Perm.eq_of_pairwise (fun a b _ _ h1 h2=>List.le_antisymm (of_decide_eq_true h1) (of_decide_eq_true h2)) hl hm h
theorem xb {l m:List (List UInt8)} (h:l.Perm m):lY l=lY m:=s9 (rN l) (rN m) ((jM l).trans (h.trans (jM m).symm))
def cV (ns:List (List UInt8)):mJ:=ns.map fun s=>(aC s,.bool true)
def Bq (v:Value):Option (DataW Unit×List MemPlace):=match v with
 | .bool x=>some (.lit (.bool x),[])
 | _=>none
def Em (l:List (List UInt8)) (v:Value) (F:Fx):Prop:=∃ a cap C,Go.Sx.Own 1 l.length a cap C (l.map aC)∧v = .slice a l.length cap∧F=⟨fun _=>True,aR a C⟩
theorem vp (l:mJ):(bF l).toList.map (·.key)=l.map (·.1):=by
 apply List.ext_getElem?
 intro i
 rw[List.getElem?_map,dI,List.getElem?_map]
 cases l[i]?<;>rfl
theorem lP (l:mJ):(bF l).toList.map (·.born)=List.range l.length:=by
 apply List.ext_getElem?
 intro i
 rw[List.getElem?_map,dI]
 by_cases h:i<l.length
 · rw[List.getElem?_eq_getElem h,List.getElem?_range h]
   rfl
 · rw[List.getElem?_eq_none (by omega),List.getElem?_eq_none (by simpa using h)]
   rfl
theorem wZ {s t:List UInt8} (h:aC s=aC t):s=t:=by
 unfold aC at h
 simp at h
 exact h
theorem List.Nodup.wY {ns:List (List UInt8)} (h:ns.Nodup):(ns.map ((fun x=>x.1)∘fun s:List UInt8=>(aC s,Value.bool true))).Nodup:=by
 have h1:List.Pairwise (fun a b:List UInt8=>a≠b) ns:=h
 exact List.pairwise_map.2 (h1.imp fun {a b} hab he=>hab (wZ he))
theorem yJ (m:Nat):Go.Proofs.AnyZ.SortsIn Tryz.prog Tryz.ng Fence.wide m:=
 ⟨fun blk off cap ss W hH hblk hsz=>callsIn_wide.2 (Tryz.slices_Sort_string blk off cap ss W hH hblk hsz),fun p cap W=>callsIn_wide.2 (Tryz.slices_Sort_string_none p cap W)⟩
theorem xk (Bm b:Nat) (ns:List (List UInt8)) (hnd:ns.Nodup) (hlen : ∀ s∈ns,s.length≤1000000) (hn:ns.length≤1000000) :
 af Tryz.prog 97 [.func (.func 136) #[] #[.pointer (some ⟨Bm,0,none⟩)]] (fun w=>aB w (some ⟨Bm,0,none⟩) [.map (some b)]∧jm w b (cV ns)) (Em (lY ns)):=by
 have hkl:(cV ns).length=ns.length:=by simp[cV]
 unfold af
 refine⟨⟨_,Tryz.func97,by decide,by decide⟩,fun av w hav hpre=>?_⟩
 obtain⟨hrow,hmap⟩:=hpre.now
 obtain⟨D0,hown,hsz,hks⟩ : ∃ D0:DataW Unit,w.ownsMap Tryz.prog 9 Bq b ns.length D0∧Maps.size D0=ns.length∧(strKeys D0).Perm ns:=by
  have hget : ∀ x∈(bF (cV ns)).toList,∃ s∈ns,x.key=aC s∧x.val = .bool true:=fun x hx=>by
   obtain⟨i,hi⟩:=List.mem_iff_getElem?.1 hx
   rw[dI] at hi
   cases hq:(cV ns)[i]? with
   | none=>rw[hq] at hi;cases hi
   | some p=>
    rw[hq] at hi
    have hp:=List.mem_of_getElem? hq
    obtain⟨s,hs,rfl⟩:=List.mem_map.1 hp
    cases hi
    exact⟨s,hs,rfl,rfl⟩
  have hrd : ∀ x∈(bF (cV ns)).toList,∀ s,x.key=aC s→s∈ns→x.val = .bool true→WideElems.rd Tryz.prog 9 Bq x=some (Lit.string s,DataW.lit (.bool true)):=fun x hx s h1 h2 h3=>by
   have hs:s.length≤maxLen:=Nat.le_trans (hlen s h2) (by decide)
   have hk:keyOf Tryz.prog 9 x.key=some (Lit.string s):=by
    have hsz:(ByteArray.mk ⟨s⟩).size≤maxLen:=hs
    rw[h1]
    unfold keyOf aC
    simp only[Tryz.underlying9]
    unfold mapKey
    simp only[Tryz.underlying9]
    rw[if_pos hsz]
   unfold WideElems.rd
   rw[hk,h3]
   rfl
  have hrg:(bF (cV ns)).toList.map (WideElems.rg Tryz.prog 9 Bq)=ns.map fun s=>(Lit.string s,DataW.lit (.bool true)):=by
   apply List.ext_getElem?
   intro i
   rw[List.getElem?_map,dI,List.getElem?_map]
   have hsk:(cV ns)[i]? = ns[i]?.map fun s=>(aC s,.bool true):=by simp[cV]
   cases hq:ns[i]? with
   | none=>rw[hsk,hq];rfl
   | some s=>
    rw[hsk,hq]
    simp only[Option.map_some]
    congr 1
    have hx:(⟨aC s,.bool true,i⟩:MapEntry)∈(bF (cV ns)).toList:=List.mem_iff_getElem?.2 ⟨i,by rw[dI,hsk,hq];rfl⟩
    unfold WideElems.rg
    rw[hrd _ hx s rfl (List.mem_of_getElem? hq) rfl]
    rfl
  have hgl:(bF (cV ns)).toList.length=ns.length:=by
   have:=congrArg List.length (vp (cV ns))
   rw[List.length_map,List.length_map] at this
   omega
  refine⟨_,⟨bF (cV ns),(cV ns).length,hmap,⟨?_,⟨fun x hx=>?_,?_,?_⟩,fun x hx=>?_⟩,?_,rfl⟩,?_,?_⟩
  · have:(bF (cV ns)).size=ns.length:=hgl
    rw[this]
    exact Nat.le_trans hn (by decide)
  · have:x.born∈(bF (cV ns)).toList.map (·.born):=List.mem_map.2 ⟨x,hx,rfl⟩
    rw[lP] at this
    exact List.mem_range.1 this
  · rw[lP]
    exact List.nodup_range
  · rw[vp]
    unfold cV
    rw[List.map_map]
    exact List.Nodup.wY hnd
  · obtain⟨s,h1,h2,h3⟩:=hget x hx
    exact⟨_,hrd x hx s h2 h1 h3⟩
  · have:(bF (cV ns)).size=ns.length:=hgl
    rw[this]
    exact Nat.le_refl _
  · show List.length (List.foldr DataW.insert [] _)=_
    rw[(WideShapes.sorted_perm _).length_eq,hrg,List.length_map]
  · show(List.map (fun p:Lit×DataW Unit=>strOf p.1) (List.foldr DataW.insert [] _)).Perm ns
    refine((WideShapes.sorted_perm _).map _).trans ?_
    rw[hrg,List.map_map]
    have:ns.map ((fun p:Lit×DataW Unit=>strOf p.1)∘fun s:List UInt8=>(Lit.string s,DataW.lit (.bool true)))=ns:=by
     conv=>rhs;rw[← List.map_id ns]
     rfl
    rw[this]
 obtain⟨hs0,arr,e0,fz,hb0,hc0⟩:=hrow.there (by simp)
 have hBm:Bm<w.heap.size:=aW hb0
 have hcell:w.cell? ⟨Bm,0,none⟩=some (.map (some b)):=by
  have:=hrow.cell (j:=0) (by simp)
  rwa [Addr.aV] at this
 have hseq:SeqGives Fence.wide 2 Tryz.prog 136 #[.pointer (some ⟨Bm,0,none⟩)] Go.Proofs.encStr (fun ss=>ss.Perm (strKeys D0)) (Maps.size D0) w:=
  Go.Proofs.AnyZ.keys_gives (ρ:=Tryz.rz) { Tryz.DW with } Fence.wide _ trivial rfl (by omega) Bm b ns.length D0 w hBm hcell hown
 have hS:=Go.Proofs.AnyZ.sorted_in Tryz.Bb Fence.wide 5 trivial trivial trivial trivial rfl (by omega) (yJ _) (enters_of Tryz.func135 (by kernel_rfl) rfl) 136 #[.pointer (some ⟨Bm,0,none⟩)] trivial (enters_of Tryz.func136 (by kernel_rfl) rfl) _ _
  (by rw[hsz];exact Nat.le_trans hn (by decide)) (by rw[hsz];omega) w hseq
 refine(callsIn_wide.1 hS).mono ?_
 rintro e w' ⟨v,ss,rfl,hp,⟨hl,hcase⟩,hnil,hbw⟩
 have hpn:ss.Perm ns:=hp.trans hks
 have hsl:ss.length=(lY ns).length:=by rw[ta,hpn.length_eq]
 have hse:ss.mergeSort (fun x y=>decide (x≤y))=lY ns:=xb hpn
 rw[hse] at hl hcase
 rw[hsl] at hcase
 have hkeep:fE w w':=d_ hbw.os hbw.tape hbw.output hbw.size hbw.block
 rcases hcase with⟨rfl,hz⟩ | ⟨g,cap,cur,rfl,hg,hgb,c1,c2,c3,c4⟩
 · have hnil0:lY ns = []:=List.eq_nil_of_length_eq_zero hz
   exact⟨_,⟨fun _=>True,[]⟩,rfl,hkeep,⟨by simp,by simp,.pure trivial⟩,none,0,[],by rw[hnil0];exact Go.Sx.Own.nil 1,by rw[hnil0];rfl,rfl⟩
 · refine⟨_,⟨fun _=>True,[(g,Row.c cur.toList)]⟩,rfl,hkeep,⟨fun r hr=>?_,by simp,.pure trivial⟩,some ⟨g,0,none⟩,cap,cur.toList,⟨?_,c1,.inr ⟨g,rfl,?_,c4⟩⟩,rfl,rfl⟩
   · simp at hr
     subst hr
     exact⟨⟨_,hgb⟩,hg⟩
   · simp
   · simpa using c3
end Go.Proofs.YtfeoedkmndkbjaaGreatDoor
namespace Go.Sx
open Go
section
variable {P:Program} {aK:fk} {w0:World} {R:Nat→Nat→Prop} {av:Nat→Prop} {bs:List (Nat×Nat)} {cs:List (List Value)} {F:Fx}
theorem aj.DS {e:TypeId} {m:Option Nat} {K:KV} (h : ∀ b,K (.pointer (some ⟨b,0,none⟩)) bs cs ⟨F.D,F.rs ++ [(b,Row.c [.map m])]⟩) :
 aj P w0 R av (Instr.box e (.map m)) bs cs F K:=by
 refine bT.2 fun w hst=>?_
 exact⟨_,_,[],cs,_,rfl,by rw[List.append_nil];exact hst.newRow [.map m] e,by rw[List.append_nil];exact h _⟩
end
end Go.Sx
namespace Go.Proofs.YtfeoedkmndkbjaaGreatDoor
open Go Go.Sx
set_option maxRecDepth 100000
set_option maxHeartbeats 4000000
set_option linter.unusedVariables false
set_option linter.unusedSimpArgs false
theorem z7 (m:Option Nat):af Tryz.prog 98 [.map m] (fun _=>True) (fun v F=>∃ b,v = .func (.func 136) #[] #[.pointer (some ⟨b,0,none⟩)]∧F=⟨fun _=>True,[(b,Row.c [.map m])]⟩):=by
 refine af.aF ab Tryz.func98 rfl (by decide) (n:=Tryz.f98.ntmps - 1) rfl rfl fun w0 av=>?_
 conv=>whnf
 repeat (refine aa.of ?_;conv=>whnf)
 refine aj.DS fun b=>?_
 conv=>whnf
 repeat (refine aa.of ?_;conv=>whnf)
 exact⟨_,aq.refl _,b,rfl,rfl⟩
def lS (l:List (List UInt8)) (e:En):List (List UInt8):=if e.1 = []∨e.1∈l then l else l ++ [e.1]
def fM (E:List En):List (List UInt8):=E.foldl lS []
theorem CA {l:List (List UInt8)} {e:En} (hn:l.Nodup) (hl : ∀ s∈l,s.length≤14) (he:e.1.length≤14):(lS l e).Nodup∧(∀ s∈lS l e,s.length≤14)∧(lS l e).length≤l.length+1:=by
 unfold lS
 split
 · exact⟨hn,hl,by omega⟩
 · rename_i h
   refine⟨?_,fun s hs=>?_,by simp⟩
   · rw[List.nodup_append]
     refine⟨hn,by simp,fun a ha b hb e2=>?_⟩
     have hb:b=e.1:=by simpa using hb
     exact h (.inr (by rw[← hb,← e2];exact ha))
   · rcases List.mem_append.1 hs with h1 | h1
     · exact hl s h1
     · rw[List.mem_singleton.1 h1];exact he
theorem yU : ∀ (E:List En) (l:List (List UInt8)),l.Nodup→(∀ s∈l,s.length≤14)→(∀ e∈E,e.1.length≤14)→(E.foldl lS l).Nodup∧(∀ s∈E.foldl lS l,s.length≤14)∧(E.foldl lS l).length≤l.length+E.length
 | [],l,h1,h2,_=>⟨h1,h2,by simp⟩
 | e::E,l,h1,h2,h3=>by
  obtain⟨a,b,c⟩:=CA h1 h2 (h3 e (List.mem_cons_self ..))
  obtain⟨p,q,r⟩:=yU E (lS l e) a b fun x hx=>h3 x (List.mem_cons_of_mem _ hx)
  exact⟨p,q,by simp only[List.foldl_cons,List.length_cons];omega⟩
theorem tj (ns:List (List UInt8)) : ∀ p∈cV ns,MapKept.IsKey .string p.1:=by
 intro p hp
 obtain⟨s,_,rfl⟩:=List.mem_map.1 hp
 exact trivial
theorem A5 {ns:List (List UInt8)} {s:List UInt8} (h:s ∉ ns) : ∀ p∈cV ns,p.1≠aC s:=by
 intro p hp he
 obtain⟨t,ht,rfl⟩:=List.mem_map.1 hp
 exact h (wZ he ▸ ht)
theorem xT (ns:List (List UInt8)) (s:List UInt8):cV (ns ++ [s])=cV ns ++ [(aC s,.bool true)]:=by simp[cV]
noncomputable def kX (d:List UInt8) (n:Int):List (List UInt8)×Nat:=if oy d n=0 then (lY (fM ((T0 d).E n.toNat)),0) else ([],oy d n)
def Ej (l:List (List UInt8)) (e:Nat) (v:Value) (F:Fx):Prop:=∃ a cap C,Go.Sx.Own 1 l.length a cap C (l.map aC)∧v = .tuple #[.slice a l.length cap,.int .i64 (e:Int)]∧F=⟨fun _=>True,aR a C⟩
theorem n5 {d:List UInt8} {n:Int} (h:oy d n=0):aM d=0∧∃ m:Nat,n=(m:Int)∧m∈(T0 d).dl:=by
 unfold oy at h
 by_cases h0:aM d=0
 · rw[if_neg (show ¬ aM d≠0 by rw[h0];simp),B4] at h
   by_cases h1:a7 d n=0
   · rw[if_neg (show ¬ a7 d n≠0 by rw[h1];simp)] at h
     obtain⟨hd,hok,m,hm,hm32,hk⟩:=cd h1
     refine⟨h0,m,hm,bY.2 ⟨hm32,?_⟩⟩
     rw[hm] at h
     by_cases h2:rk d m=2
     · exact h2
     · rw[if_pos (by simpa using h2)] at h
       cases h
   · rw[if_pos h1] at h
     exact absurd h h1
 · rw[if_pos h0] at h
   exact absurd h h0
theorem yw (d:List UInt8) (h:Hd) (hh:h.Ok d.length) (hl:d.length≤1000000) (n:Int) :
 af Tryz.prog 51 [h.v d.length,.int .i64 n] (fun w=>By w h d) (Ej (kX d n).1 (kX d n).2):=by
 have hds:=rQ d h hh hl n
 have hz:=n5 (d:=d) (n:=n)
 obtain⟨M,hM⟩ : ∃ x,x=kX d n:=⟨_,rfl⟩
 rw[← hM]
 unfold kX at hM
 refine af.aF ab Tryz.func51 rfl (by decide) (n:=Tryz.f51.ntmps - 2) rfl rfl fun w0 av=>?_
 conv=>whnf
 refine ak.pure hds (fun w hw=>hw) (fun v D hv=>?_)
 unfold tv at hv
 by_cases h0:oy d n=0
 rotate_left
 · rw[if_neg h0] at hv hM
   obtain⟨q,rfl,rfl⟩:=hv
   rw[hM]
   generalize oy d n=e at *
   conv=>whnf
   repeat (refine aa.of ?_;conv=>whnf)
   refine aH.yes (by simp[ar];omega) ?_
   conv=>whnf
   repeat (refine aa.of ?_;conv=>whnf)
   exact⟨⟨fun _=>True,[]⟩,aq.bare fun _ _=>trivial,none,0,[],Go.Sx.Own.nil 1,rfl,rfl⟩
 rw[if_pos h0] at hv hM
 obtain⟨bt,bm,H,hH,rfl,rfl⟩:=hv
 obtain⟨h38,m,rfl,hm⟩:=hz h0
 have hT:=fp d hH
 have hname:=gE d H m
 have hEe:(T0 d).E (m:Int).toNat=(aG d H).E m:=rfl
 rw[hEe] at hM
 have hm':m∈(aG d H).dl:=hm
 generalize aG d H=T at *
 generalize oy d m=e at *
 subst h0
 rw[hM]
 clear hM
 have hm1:(dv (h.v d.length) bm T.K 32)[1]? = some (.map (some bm)):=rfl
 have hTr : ∀ w,bU T (h.v d.length) bt bm w→aB w (some ⟨bt,0,none⟩) (dv (h.v d.length) bm T.K 32):=fun w hw=>hw.1
 have hTE : ∀ w,bU T (h.v d.length) bt bm w→aB w (T.H m).a (bV (T.E m)):=fun w hw=>hw.2.2 m hm'
 have hTm : ∀ w,bU T (h.v d.length) bt bm w→jm w bm (T.kv T.dl):=fun w hw=>hw.2.1
 generalize dv (h.v d.length) bm T.K 32=Ct at *
 have hlen:=hT.len m
 have hhd:=hT.hd m
 conv=>whnf
 repeat (refine aa.of ?_;conv=>whnf)
 refine aH.no (by simp[ar]) ?_
 conv=>whnf
 repeat (refine aa.of ?_;conv=>whnf)
 refine aj.kY fun b8=>?_
 conv=>whnf
 repeat (refine aa.of ?_;conv=>whnf)
 refine aj.ah (ai.bS ab (t:=114) rfl rfl (ad:=⟨bt,0,none⟩) (k:=1) (L:=Ct) (v:=.map (some bm)) (.fact fun w hw=>hTr w hw.2) (fun _=>rfl) hm1 ?_)
 conv=>whnf
 repeat (refine aa.of ?_;conv=>whnf)
 refine aj.ah (ai.eg ab (t:=114) rfl rfl rfl rfl (df.fact fun w hw=>hTm w hw.2) rfl (T.ld T.dl) (v:=.slice (T.H m).a 8 (T.H m).c) T.qN (T.wz hm') ?_)
 generalize T.E m=E at *
 generalize hHH:T.H m=K at *
 have hnm : ∀ j,(fM (E.take j)).Nodup∧(∀ s∈fM (E.take j),s.length≤14)∧(fM (E.take j)).length≤8:=fun j=>by
  obtain⟨a,b,c⟩:=yU (E.take j) [] List.nodup_nil (by simp) fun e he=>hname e (List.mem_of_mem_take he)
  refine⟨a,b,Nat.le_trans c ?_⟩
  rw[List.length_nil,List.length_take]
  omega
 have hnext : ∀ j (hj:j<E.length),fM (E.take (j+1))=lS (fM (E.take j)) E[j]:=fun j hj=>by
  unfold fM
  rw[List.take_succ_eq_append_getElem hj,List.foldl_append]
  rfl
 conv=>whnf
 repeat (refine aa.of ?_;conv=>whnf)
 refine aI.loop ab (ι:=Nat) ([10]++List.range' 28 14) (fun x=>x≤8)
  (fun x=>[(28,.v (.int .i64 (x:Int)))]) (fun _=>[]) (fun x=>⟨bU T (h.v d.length) bt bm,[] ++ [(b8,Row.m (bF (cV (fM (E.take x)))) (cV (fM (E.take x))).length)] ++ []⟩)
  (fun x=>8 - x) 0 (Nat.zero_le _) ?_ rfl (aq.of_le ⟨by simp[Fx.and,fM,cV],fun w hw=>hw.2⟩) fun j hj=>?_
 · conv=>whnf
   repeat (first | exact aw.nil | refine aw.any ?_ | refine aw.cons ?_)
 conv=>whnf
 refine aH.split (fun hlt=>?_) (fun hlt=>?_)
 · have hj8:j<8:=by
    simp only[au,decide_eq_true_eq] at hlt
    omega
   have hjE:j<E.length:=by omega
   have hnx:=hnext j hjE
   obtain⟨hn1,hn2,hn3⟩:=hnm j
   have hnmj:=hname _ (List.getElem_mem hjE)
   have hfin : ∀ ns':List (List UInt8),ns'=fM (E.take (j+1))→aq ⟨bU T (h.v d.length) bt bm,[] ++ [(b8,Row.m (bF (cV ns')) (cV ns').length)] ++ []⟩ ((fun x=>(⟨bU T (h.v d.length) bt bm,[] ++ [(b8,Row.m (bF (cV (fM (E.take x)))) (cV (fM (E.take x))).length)] ++ []⟩:Fx)) (j+1)):=fun ns' h=>by
    subst h
    exact aq.refl _
   generalize fM (E.take j)=ns at *
   conv=>whnf
   repeat (refine aa.of ?_;conv=>whnf)
   refine aj.ah (ai.index ab (t:=111) rfl rfl rfl (by omega) (by omega) hhd.nil fun ad had=>?_)
   conv=>whnf
   repeat (refine aa.of ?_;conv=>whnf)
   refine aj.ah (ai.kC ab (t:=113) rfl rfl (ad:=ad) (k:=2*j) (L:=bV E) (m:=gQ E[j]) (.fact fun w hw=>had ▸ hTE w hw) (by congr 1;show Int.toNat (j:Int)*2=_;rw[Int.toNat_natCast];omega) (gn hjE) rfl ?_)
   generalize hej:E[j]=e at *
   obtain⟨nm,nd⟩:=e
   dsimp only at hnmj
   conv=>whnf
   repeat (refine aa.of ?_;conv=>whnf)
   intro b10
   conv=>whnf
   repeat (refine aa.of ?_;conv=>whnf)
   refine aj.ah (ai.ph (l:=nm) (m:=[]) ?_)
   conv=>whnf
   repeat (refine aa.of ?_;conv=>whnf)
   refine aH.split (fun hne=>?_) (fun hne=>?_)
   · have hne':nm≠[]:=by simpa using hne
     conv=>whnf
     repeat (refine aa.of ?_;conv=>whnf)
     by_cases hin:nm∈ns
     · have ha:lS ns (nm,nd)=ns:=if_pos (.inr hin)
       rw[ha] at hnx
       refine a_.yK ab (t:=146) rfl rfl rfl rfl (r1:=[]) (r2:=[]) (l:=cV ns) trivial (tj ns) ⟨(aC nm,.bool true),List.mem_map.2 ⟨nm,hin,rfl⟩,rfl⟩ fun i u hi=>?_
       have hse:(cV ns).set i (aC nm,.bool true)=cV ns:=by
        obtain⟨hl,he⟩:=List.getElem?_eq_some_iff.1 hi
        have hu:u = .bool true:=by
         have:=List.mem_of_getElem? hi
         obtain⟨s,_,hs⟩:=List.mem_map.1 this
         exact(Prod.mk.inj hs).2.symm
        rw[hu] at he
        rw[show(aC nm,Value.bool true)=(cV ns)[i] from he.symm]
        exact List.set_getElem_self hl
       rw[hse]
       conv=>whnf
       repeat (refine aa.of ?_;conv=>whnf)
       refine⟨j+1,⟨hj8,by dsimp only;omega⟩,?_,?_,hfin ns hnx.symm⟩
       · conv=>whnf
         refine⟨?_,rfl⟩
         repeat (first | exact aw.nil | refine aw.any ?_ | refine aw.cons ?_ | refine aw.eq (by rw[wrap_i64 (by omega)];rfl) ?_)
       · conv=>whnf
         exact trivial
     · have ha:lS ns (nm,nd)=ns ++ [nm]:=if_neg fun h=>h.elim hne' hin
       rw[ha] at hnx
       refine a_.rA ab (t:=146) rfl rfl rfl rfl (r1:=[]) (r2:=[]) (l:=cV ns) trivial (tj ns) (A5 hin) ?_
       rw[← xT]
       conv=>whnf
       repeat (refine aa.of ?_;conv=>whnf)
       refine⟨j+1,⟨hj8,by dsimp only;omega⟩,?_,?_,hfin (ns ++ [nm]) hnx.symm⟩
       · conv=>whnf
         refine⟨?_,rfl⟩
         repeat (first | exact aw.nil | refine aw.any ?_ | refine aw.cons ?_ | refine aw.eq (by rw[wrap_i64 (by omega)];rfl) ?_)
       · conv=>whnf
         exact trivial
   · have hne':nm = []:=by simpa using hne
     have ha:lS ns (nm,nd)=ns:=if_pos (.inl hne')
     rw[ha] at hnx
     conv=>whnf
     repeat (refine aa.of ?_;conv=>whnf)
     refine⟨j+1,⟨hj8,by dsimp only;omega⟩,?_,?_,hfin ns hnx.symm⟩
     · conv=>whnf
       refine⟨?_,rfl⟩
       repeat (first | exact aw.nil | refine aw.any ?_ | refine aw.cons ?_ | refine aw.eq (by rw[wrap_i64 (by omega)];rfl) ?_)
     · conv=>whnf
       exact trivial
 · have hje:j=8:=by
    simp only[au,decide_eq_false_iff_not] at hlt
    omega
   subst hje
   have hE8:E.take 8=E:=List.take_of_length_le (by omega)
   obtain⟨hn1,hn2,hn3⟩:=hnm 8
   rw[hE8] at hn1 hn2 hn3 ⊢
   generalize fM E=ns at *
   conv=>whnf
   repeat (refine aa.of ?_;conv=>whnf)
   refine ak.pure (z7 (some b8)) (fun w hw=>trivial) (fun v D hv=>?_)
   obtain⟨bk,rfl,rfl⟩:=hv
   conv=>whnf
   repeat (refine aa.of ?_;conv=>whnf)
   refine ak.c_ (F':=⟨fun w=>aB w (some ⟨bk,0,none⟩) [.map (some b8)]∧jm w b8 (cV ns),[]⟩) ?_ ?_
   · refine aq.trans (G:=⟨fun w=>(bU T (h.v d.length) bt bm w∧True)∧jm w b8 (cV ns),[] ++ [(bk,Row.c [.map (some b8)])]⟩) (aq.Bp (r1:=[]) (r2:=[(bk,Row.c [.map (some b8)])])) ?_
     exact aq.share1.trans (aq.imp fun w hw=>⟨hw.2,hw.1.2⟩)
   refine ak.pure (xk bk b8 ns hn1 (fun s hs=>by have:=hn2 s hs;omega) (by omega)) (fun w hw=>hw) (fun v D hv=>?_)
   obtain⟨a,cap,C,hO,rfl,rfl⟩:=hv
   conv=>whnf
   repeat (refine aa.of ?_;conv=>whnf)
   exact⟨⟨fun _=>True,aR a C⟩,aq.of_le ⟨by simp[Fx.and],fun w hw=>trivial⟩,a,cap,C,hO,rfl,rfl⟩
inductive DF (ch:Nat→List Nat):Nat→Prop
 | root:DF ch 0
 | step {n x:Nat}:DF ch n→x∈ch n→DF ch x
theorem zG {ch:Nat→List Nat} (hu:tU ch) {x:Nat}:x∈cM ch 33 0↔DF ch x:=by
 constructor
 · intro h
   obtain⟨k,hk⟩:=pP 33 h
   clear h
   induction k generalizing x with
   | zero=>
    have:x=0:=by simpa [xI] using hk
    subst this
    exact .root
   | succ k ih=>
    obtain⟨y,hy,hx⟩:=lk k hk
    exact .step (ih hy) hx
 · intro h
   have hp:=qF 33 (ni hu)
   induction h with
   | root=>exact hp.mem_iff.2 (List.mem_cons_self ..)
   | step _ hx ih=>exact hp.mem_iff.2 (List.mem_cons_of_mem _ (List.mem_flatMap.2 ⟨_,ih,hx⟩))
theorem rL {e:List UInt8} (h0:dM e=0) (hE : ∀ n∈(T0 e).dl,cX (ay e n)=true) (hf:(T0 e).vZ) (hr : ∀ n,n<32→rk e n≠0→DF (T0 e).ch n):aM e=0:=by
 rw[← iu]
 unfold kq
 rw[if_neg (show ¬ dM e≠0 by rw[h0];simp),if_pos (show hJ e from fun n hn=>(e_.1 (hE n hn)).1)]
 unfold Tree.res
 exact if_pos ⟨hf,fun n hn hk=>(wC (T0 e) 33 0 [] n).2 ((zG hf.uniq).2 (hr n hn hk))⟩
theorem ru {d:List UInt8} (h:aM d=0) {n:Nat} (hn:n<32) (hk:rk d n≠0):DF (T0 d).ch n:=by
 obtain⟨-,hG,-⟩:=bx h
 exact(zG hG.fine.uniq).1 ((wC (T0 d) 33 0 [] n).1 (hG.all n hn hk))
structure pT (d e:List UInt8) (m:Nat):Prop where
 slot:eh d e m
 blk : ∀ y∈part d m 12,∀ i,128*y≤i→i<128*y+128→aJ e i=aJ d i
theorem qC {d e:List UInt8} {b b':Nat→Nat} (hd:d.length=12288) (he:e.length=12288) (hb : ∀ i,i<12→b' i=b i) (h9 : ∀ i,i<12→b i<96)
 (hs : ∀ i,i<12→b i≠0→∀ m,128*b i≤m→m<128*b i+128→aJ e m=aJ d m) : ∀ k,k≤12→dC e b' k=dC d b k
 | 0,_=>rfl
 | k+1,hk=>by
  show dC e b' k++dg e (b' k)=dC d b k++dg d (b k)
  rw[qC hd he hb h9 hs k (by omega),hb k (by omega)]
  congr 1
  unfold dg
  have:=h9 k (by omega)
  split
  · rfl
  · rename_i h
    exact ia (by omega) (by omega) (hs k (by omega) h)
theorem eO {d e:List UInt8} (h0:dM d=0) (g0:dM e=0) {m:Nat} (hm:m<32) (hk:rk d m≠0) (h:pT d e m):ay e m=ay d m:=by
 obtain⟨hd,hok⟩:=bl h0
 obtain⟨he,_⟩:=bl g0
 obtain⟨q1,q2,q3,_⟩:=dQ h.slot
 have e1:a7 d m=0:=(di h0).2 ⟨hm,hk⟩
 have e2:a7 e m=0:=(di g0).2 ⟨hm,by rw[q1];exact hk⟩
 unfold ay
 rw[e1,e2,if_neg (by decide),if_neg (by decide),q2,qC hd he q3 (fun i hi=>eo hok hm hi) (fun i hi hn m a b=>h.blk _ (dJ.2 ⟨hn,i,hi,rfl⟩) m a b) 12 (Nat.le_refl _)]
theorem nR {c c':List UInt8} : ∀ (m o:Nat),(∀ j,j<m→aJ c' (o+j)=aJ c (o+j))→fV c' o m=fV c o m
 | 0,_,_=>rfl
 | m+1,o,h=>by
  have e0:aJ c' o=aJ c o:=h 0 (by omega)
  have h2 : ∀ j,j<m→aJ c' (o+1+j)=aJ c (o+1+j):=fun j hj=>by
   rw[show o+1+j=o+(j+1) by omega]
   exact h (j+1) (by omega)
  unfold fV
  rw[e0,nR m (o+1) h2]
section
variable {c c':List UInt8} (hc:c.length=128) (hc':c'.length=128)
include hc' in
theorem uv {i:Nat} (hi:i<8) {x:En} (hx:x.1.length≤14) (hz : ∀ j,j<x.1.length→aJ x.1 j≠0) (h2:x.2<256) (h : ∀ r,r<16→aJ c' (16*i+r)=aJ (iF x) r) :
 fZ c' i=x∧fV c' (16*i) 14=x.1.length∧(∀ k,k<14→x.1.length≤k→aJ c' (16*i+k)=0)∧aJ c' (16*i+15)=0:=by
 have hb : ∀ r,r<16→aJ c' (16*i+r)=if r=14 then x.2%256 else if r<x.1.length then aJ x.1 r else 0:=fun r hr=>by rw[h r hr,u_ hx hr]
 have hn:fV c' (16*i) 14=x.1.length:=ny c' 14 (16*i) _ hx (fun j hj=>by rw[hb j (by omega),if_neg (by omega),if_pos hj];exact hz j hj) (by
  by_cases h14:x.1.length=14
  · exact .inl h14
  · refine .inr ?_
    rw[hb _ (by omega),if_neg h14,if_neg (by omega)])
 refine⟨?_,hn,fun k hk hk2=>by rw[hb k (by omega),if_neg (by omega),if_neg (by omega)],by rw[hb 15 (by decide),if_neg (by decide),if_neg (by omega)]⟩
 unfold fZ
 rw[hn,hb 14 (by decide),if_pos rfl,Nat.mod_eq_of_lt h2]
 refine Prod.ext ?_ rfl
 dsimp only
 refine bW (by rw[aZ (by omega)]) fun j hj=>?_
 rw[aZ (by omega)] at hj
 rw[a8 (by omega) hj,hb j (by omega),if_neg (by omega),if_pos hj]
include hc hc'
theorem mU {i:Nat} (hi:i<8) (h : ∀ r,r<16→aJ c' (16*i+r)=aJ c (16*i+r)):fZ c' i=fZ c i:=by
 unfold fZ
 rw[nR 14 (16*i) fun j hj=>h j (by omega),h 14 (by decide)]
 have:=j_ c 14 (16*i)
 rw[ia (d:=c) (by omega) (by omega) fun m a b=>by have:=h (m - 16*i) (by omega);rwa [show 16*i+(m - 16*i)=m by omega] at this]
variable {k:Nat} (hk:k<8) {x:En} (hx:x.1.length≤14) (hz : ∀ j,j<x.1.length→aJ x.1 j≠0) (h2:x.2<256) (hnew : ∀ r,r<16→aJ c' (16*k+r)=aJ (iF x) r)
 (hold : ∀ i,i<8→i≠k→∀ r,r<16→aJ c' (16*i+r)=aJ c (16*i+r))
include hk hx hz h2 hnew hold
theorem Dj:eA c' 8=(eA c 8).set k x:=by
 refine List.ext_getElem (by simp[eA]) fun i h3 h4=>?_
 have hi:i<8:=by simpa [eA] using h3
 rw[List.getElem_set]
 by_cases hik:k=i
 · subst hik
   rw[if_pos rfl]
   simp only[eA,List.getElem_map,List.getElem_range]
   exact(uv hc' hk hx hz h2 hnew).1
 · rw[if_neg hik]
   simp only[eA,List.getElem_map,List.getElem_range]
   exact mU hc hc' hi (hold i hi (Ne.symm hik))
theorem BQ (hok:cX c=true) (hname:x=([],0)∨(cK x.1=true∧x.2≠0)) (honly:x.1 = []∨∀ i,i<8→i≠k→(fZ c i).1≠x.1):cX c'=true:=by
 rw[ec] at hok ⊢
 obtain⟨e1,e2,e3,e4⟩:=uv hc' hk hx hz h2 hnew
 intro i hi
 by_cases hik:i=k
 · subst hik
   refine⟨fun q hq hq2=>e3 q hq (by omega),e4,by rw[e1];exact hname,?_⟩
   rw[e1]
   rcases honly with h | h
   · exact .inl h
   · exact .inr fun q hq=>by
      rw[mU hc hc' (by omega) (hold q (by omega) (by omega))]
      exact h q (by omega) (by omega)
 · have e:=mU hc hc' hi (hold i hi hik)
   have o:=hok i hi
   have hn:=nR (c:=c) (c':=c') 14 (16*i) fun j hj=>hold i hi hik j (by omega)
   refine⟨fun q hq hq2=>?_,?_,by rw[e];exact o.name,?_⟩
   · rw[hold i hi hik q (by omega)]
     exact o.tail q hq (by omega)
   · rw[hold i hi hik 15 (by decide)]
     exact o.pad
   · rw[e]
     by_cases h6:(fZ c i).1 = []
     · exact .inl h6
     · refine .inr fun q hq=>?_
       have h7:=o.only.resolve_left h6
       by_cases hqk:q=k
       · subst hqk
         rw[e1]
         intro heq
         rcases honly with h | h
         · exact h6 (by rw[← heq,h])
         · exact h i hi hik heq.symm
       · rw[mU hc hc' (by omega) (hold q (by omega) hqk)]
         exact h7 q hq
end
theorem mV (a b:List En):nodes (a++b)=nodes a++nodes b:=by unfold nodes;rw[List.filter_append,List.map_append]
theorem po (e:En) (l:List En):nodes (e::l)=(if e.1 = [] then [] else [e.2])++nodes l:=by
 rw[mi]
 split<;>rfl
theorem zZ {l:List En} {k:Nat} (hk:k<l.length) (x:En):nodes (l.set k x)=nodes (l.take k)++((if x.1 = [] then [] else [x.2])++nodes (l.drop (k+1))):=by
 rw[List.set_eq_take_append_cons_drop,if_pos hk,mV,po]
theorem yu {l:List En} {k:Nat} (hk:k<l.length):nodes l=nodes (l.take k)++((if l[k].1 = [] then [] else [l[k].2])++nodes (l.drop (k+1))):=by
 rw[← po,← List.drop_eq_getElem_cons hk,← mV,List.take_append_drop]
theorem zN {l:List En} {k:Nat} (hk:k<l.length) (h0:l[k].1 = []) {x:En} (hx:x.1≠[]):(nodes (l.set k x)).Perm (x.2::nodes l):=by
 rw[zZ hk,yu hk,if_pos h0,if_neg hx,List.nil_append]
 exact List.perm_middle
theorem qS {d:List UInt8} (h0:dM d=0) {kind:Nat} (hk:kind=1∨kind=2) (he:(aN d kind).2.2=0) :
 fy d=some (aN d kind).1∧(∃ x,∀ i,i/128≠13→i/128≠14+(aN d kind).1/8→i/128≠x→aJ (aN d kind).2.1 i=aJ d i)∧
  (kind=2→∀ i,i<128→aJ (aN d kind).2.1 (128*rb (aN d kind).2.1 (aN d kind).1 0+i)=0):=by
 obtain⟨hd,hok⟩:=bl h0
 unfold aN at he ⊢
 have hne : ¬ dM d≠0:=by rw[h0];simp
 rw[if_neg hne] at he ⊢
 cases hf:fy d with
 | none=>rw[hf] at he;cases he
 | some n=>
  rw[hf] at he
  obtain⟨hn,hkn⟩:=jj hf
  dsimp only at he ⊢
  by_cases h2:kind=2
  · subst h2
    rw[if_pos rfl] at he ⊢
    cases hx:cI (bA d) with
    | none=>rw[hx] at he;cases he
    | some x=>
     dsimp only
     obtain⟨hx1,hx2⟩:=dK hx
     have hbl:=aU hd
     have hpb:(cq (bA d) x true).length=12:=by rw[bz,hbl]
     have hsl:=aP hd hpb
     have hz:(List.replicate 128 (0:UInt8)).length=128:=List.length_replicate
     have htl:=cY hd hx2
     have htb : ∀ m,aJ (cG d x) m=if 128*x≤m∧m<128*x+128 then aJ (List.replicate 128 0) (m - 128*x) else if 1664≤m∧m<1676 then aJ (cq (bA d) x true) (m - 1664) else aJ d m:=fun m=>by
      unfold cG
      rw[cu (by rw[hz];omega),hz,aX hd hpb]
     obtain⟨f1,f2,f3,f4⟩:=iN htl hn 2 128 (fun i=>if i=0 then x else 0) (by decide) (by decide) (fun i _=>by split<;>omega)
     have hpb2:=bO htl hn 2 128 (fun i=>if i=0 then x else 0)
     have f30:=f3 0 (by decide)
     rw[if_pos rfl] at f30
     refine⟨rfl,⟨x,fun i a b c=>?_⟩,fun _ i hi=>?_⟩
     · rw[hpb2,if_neg (by omega),htb,if_neg (by omega),if_neg (by omega)]
     · rw[f30,hpb2,if_neg (by omega),htb,if_pos (by omega)]
       unfold aJ
       rw[List.getD_eq_getElem?_getD,List.getElem?_replicate]
       split<;>rfl
  · rw[if_neg h2] at he ⊢
    dsimp only
    have hpb2:=bO hd hn 1 0 (fun _=>0)
    refine⟨rfl,⟨0,fun i a b c=>?_⟩,fun h=>absurd h h2⟩
    rw[hpb2,if_neg (by omega)]
theorem js {d:List UInt8} (h0:dM d=0) {n:Nat} (hn:n<32) (hk:rk d n=2):(ay d n).length=128∧(∀ i,i<128→aJ (ay d n) i=aJ d (128*rb d n 0+i))∧18≤rb d n 0∧rb d n 0<96∧rb d n 0∈part d n 12∧rs d n=128:=by
 obtain⟨hd,hok⟩:=bl h0
 obtain⟨hcc,hb96⟩:=gJ h0 hn hk
 obtain⟨h1,h2,h3⟩:=iy hok hn hk
 rw[hcc]
 exact⟨aZ (by omega),fun i hi=>a8 (by omega) hi,h2,h3,dJ.2 ⟨by omega,0,by decide,rfl⟩,h1⟩
theorem CT {e:List UInt8} (h0:dM e=0) {n:Nat} (hn:n<32) (hk:rk e n=2) {k:Nat} (hk8:k<8) {x:En} (hx:x.1.length≤14) (hz : ∀ j,j<x.1.length→aJ x.1 j≠0) (h2:x.2<256) :
 dM (eX e n k (iF x))=0∧(∀ m,m<32→eh e (eX e n k (iF x)) m)∧(∀ m,m<32→m≠n→pT e (eX e n k (iF x)) m)∧(∀ i,i/128≠rb e n 0→aJ (eX e n k (iF x)) i=aJ e i)∧
  eA (ay (eX e n k (iF x)) n) 8=(eA (ay e n) 8).set k x∧
  (cX (ay e n)=true→(x=([],0)∨(cK x.1=true∧x.2≠0))→(x.1 = []∨∀ i,i<8→i≠k→(fZ (ay e n) i).1≠x.1)→cX (ay (eX e n k (iF x)) n)=true):=by
 obtain⟨hd,hok⟩:=bl h0
 obtain⟨c1,c2,c3,c4,c5,c6⟩:=js h0 hn hk
 obtain⟨p1,p2⟩:=ln hok
 have hxl:=jZ hx
 have hwl:=mT hd hok hn hk hk8 hxl
 have hby : ∀ m,aJ (eX e n k (iF x)) m=if 128*rb e n 0+16*k≤m∧m<128*rb e n 0+16*k+16 then aJ (iF x) (m - (128*rb e n 0+16*k)) else aJ e m:=fun m=>by
  unfold eX
  rw[cu (by omega),hxl]
 generalize eX e n k (iF x)=f at *
 have hslot : ∀ m,m<32→eh e f m:=fun m hm r hr=>by rw[hby,if_neg (by omega)]
 have hblk : ∀ m,m<32→m≠n→∀ y∈part e m 12,∀ i,128*y≤i→i<128*y+128→aJ f i=aJ e i:=fun m hm hmn y hy i a b=>by
  have hne:y≠rb e n 0:=fun h=>p2 m n hm hn hmn y hy (h ▸ c5)
  rw[hby,if_neg (by omega)]
 have hpf:part f n 12=part e n 12:=fU (hslot n hn)
 obtain⟨q1,q2,q3,q4⟩:=dQ (hslot n hn)
 have hOk:eZ f:=by
  refine lO hok hd hwl hn (fun m hm=>by rw[hby,if_neg (by omega)]) (fun m a b=>by rw[hby,if_neg (by omega)]) (fun m hm _=>hslot m hm) ?_ hblk (by rw[hpf];exact p1 n hn) (fun m hm hmn y hy=>?_) (fun j hj=>?_)
  · have hf:=hok.form n hn
    unfold cH at hf ⊢
    rw[q4,q1,q2]
    have hnz : ∀ b:Nat→Nat,¬ jB (rk e n) (rs e n) b=true:=fun b h=>by
     have:=(cW.1 h).1
     omega
    rw[if_neg (hnz _)] at hf ⊢
    rw[Bool.and_eq_true,decide_eq_true_eq,decide_eq_true_eq] at hf ⊢
    obtain⟨g0,g1,g2,g3,g4,g5,g6⟩:=hf
    refine⟨g0,by rw[q1];exact g1,by rw[q2];exact g2,fun h=>by rw[q1];exact g3 h,fun i hi h=>by rw[q3 i hi,q2] at *;exact g4 i hi h,?_,by rw[q1,q2,q3 0 (by decide)];exact g6⟩
    unfold jA
    rw[q2,c6]
    rfl
  · rw[hpf] at hy
    exact fun h=>p2 n m hn hm (Ne.symm hmn) y hy h
  · rw[oV hd hwl fun m a b=>by rw[hby,if_neg (by omega)],ll hok j,hpf]
    constructor
    · rintro(h | ⟨m,hm,h⟩)
      · exact .inl h
      · by_cases hmn:m=n
        · subst hmn
          exact .inr (.inl h)
        · exact .inr (.inr ⟨m,hm,hmn,h⟩)
    · rintro(h | h | ⟨m,hm,_,h⟩)
      · exact .inl h
      · exact .inr ⟨n,hn,h⟩
      · exact .inr ⟨m,hm,h⟩
 have hf0:=mj hwl hOk
 obtain⟨d1,d2,d3,d4,d5,d6⟩:=js hf0 hn (by rw[q1];exact hk)
 have hcont : ∀ i,i<128→aJ (ay f n) i=if 16*k≤i∧i<16*k+16 then aJ (iF x) (i - 16*k) else aJ (ay e n) i:=fun i hi=>by
  rw[d2 i hi,q3 0 (by decide),hby,c2 i hi]
  by_cases h:16*k≤i∧i<16*k+16
  · rw[if_pos h,if_pos (by omega)]
    congr 1
    omega
  · rw[if_neg h,if_neg (by omega)]
 have hnew : ∀ r,r<16→aJ (ay f n) (16*k+r)=aJ (iF x) r:=fun r hr=>by
  rw[hcont _ (by omega),if_pos (by omega)]
  congr 1
  omega
 have hold : ∀ i,i<8→i≠k→∀ r,r<16→aJ (ay f n) (16*i+r)=aJ (ay e n) (16*i+r):=fun i hi hik r hr=>by
  rw[hcont _ (by omega),if_neg (by omega)]
 exact⟨hf0,hslot,fun m hm hmn=>⟨hslot m hm,hblk m hm hmn⟩,fun i hi=>by rw[hby,if_neg (by omega)],Dj c1 d1 hk8 hx hz h2 hnew hold,fun a b c=>BQ c1 d1 hk8 hx hz h2 hnew hold a b c⟩
end Go.Proofs.YtfeoedkmndkbjaaGreatDoor
