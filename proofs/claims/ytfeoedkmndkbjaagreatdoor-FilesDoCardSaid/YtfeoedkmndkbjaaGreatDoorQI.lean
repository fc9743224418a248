/- Parts of the proof: NbJ, NbK, NbL, ShB, NaA, NaB, NaC, NaD, NaE, NaF, NbM. -/
import Derived.Test.YtfeoedkmndkbjaaGreatDoorQG
import Derived.Test.YtfeoedkmndkbjaaGreatDoorQH
import Derived.Shelf.Strings.Search1
import Derived.Shelf.Strings.Search2
import Derived.Shelf.Strings.Search3
import Derived.Shelf.Strings.Count
import Derived.Test.YtfeoedkmndkbjaaGreatDoorProg
import Derived.Test.YtfeoedkmndkbjaaGreatDoorQE
import Derived.Test.YtfeoedkmndkbjaaGreatDoorQD
namespace Go.Proofs.YtfeoedkmndkbjaaGreatDoor
open Go Go.Sx
set_option maxRecDepth 100000
set_option maxHeartbeats 4000000
set_option linter.unusedVariables false
set_option linter.unusedSimpArgs false
theorem cJ (d:List UInt8) (n:Int) : ∃ k s b,na d n=bg k s b∧(a7 d n=0→k=rk d n.toNat∧s=rs d n.toNat∧b=rb d n.toNat):=by
 unfold na
 by_cases h:a7 d n=0
 · rw[if_pos h]
   exact⟨_,_,_,rfl,fun _=>⟨rfl,rfl,rfl⟩⟩
 · rw[if_neg h]
   exact⟨_,_,_,rfl,fun h2=>absurd h2 h⟩
theorem cd {d:List UInt8} {n:Int} (h:a7 d n=0):d.length=12288∧eZ d∧∃ m:Nat,n=m∧m<32∧rk d m≠0:=by
 unfold a7 at h
 by_cases h1:dM d=0
 · rw[if_neg (by simp[h1])] at h
   by_cases h2:n<0∨32≤n
   · rw[if_pos h2] at h
     cases h
   · rw[if_neg h2] at h
     by_cases h3:rk d n.toNat=0
     · rw[if_pos h3] at h
       cases h
     · obtain⟨q1,q2⟩:=bl h1
       exact⟨q1,q2,n.toNat,by omega,by omega,h3⟩
 · rw[if_pos h1] at h
   exact absurd h h1
def fJ (d:List UInt8) (e:Nat) (v:Value) (F:Fx):Prop:=∃ h:Hd,v = .tuple #[h.v d.length,.int .i64 (e:Int)]∧h.Ok d.length∧F=⟨fun w=>By w h d,[]⟩
theorem bN {D:World→Prop} {rs:List (Nat×Row)} {e:Nat} : ∃ F',aq ⟨D,rs⟩ F'∧fJ [] e (.tuple #[.slice none 0 0,.int .i64 (e:Int)]) F':=
 ⟨⟨fun w=>By w Hd.nil [],[]⟩,aq.bare fun w _=>By.nil w,Hd.nil,rfl,Hd.dq,rfl⟩
def wi (d:List UInt8) (e:Nat) (v:Value) (F:Fx):Prop:=(∃ b cap Z,v = .tuple #[.slice (some ⟨b,0,none⟩) d.length cap,.int .i64 (e:Int)]∧d.length≤cap∧F=⟨fun _=>True,[(b,Row.c (d.map ao++Z))]⟩)∨
 (d = []∧v = .tuple #[.slice none 0 0,.int .i64 (e:Int)]∧F=⟨fun _=>True,[]⟩)
theorem dw {D:World→Prop} {rs:List (Nat×Row)} {e:Nat} : ∃ F',aq ⟨D,rs⟩ F'∧wi [] e (.tuple #[.slice none 0 0,.int .i64 (e:Int)]) F':=
 ⟨⟨fun _=>True,[]⟩,aq.bare fun w _=>trivial,.inr ⟨rfl,rfl,rfl⟩⟩
theorem mb {f:FuncId} {vs:List Value} {Pre:World→Prop} {d:List UInt8} {e:Nat} (h:af Tryz.prog f vs Pre (wi d e)):af Tryz.prog f vs Pre (fJ d e):=
 h.weaken fun v F hv=>by
  rcases hv with⟨b,cap,Z,rfl,hc,rfl⟩ | ⟨rfl,rfl,rfl⟩
  · exact⟨⟨fun w=>By w ⟨some ⟨b,0,none⟩,cap⟩ d,[]⟩,aq.kr (r1:=[]) (r2:=[]),⟨some ⟨b,0,none⟩,cap⟩,rfl,⟨fun h=>(by cases h),hc⟩,rfl⟩
  · exact bN
def cw (d:List UInt8) (b:Nat→Nat):Nat→List UInt8
 | 0=>d
 | i+1=>if b i=0 then cw d b i else zL (cw d b i) (b i)
theorem fO {d:List UInt8} (hd:d.length=12288) (b:Nat→Nat) : ∀ i,(cw d b i).length=12288
 | 0=>hd
 | i+1=>by
  unfold cw
  split
  · exact fO hd b i
  · exact BT (fO hd b i) _
noncomputable def ey (d:List UInt8) (n:Nat):List UInt8×Nat:=
 if a7 d n≠0 then ([],a7 d n) else if n=0 then ([],12) else (cS (cw d (rb d n) 12) n 0 0 (fun _=>0),0)
theorem uj (d:List UInt8) (h:Hd) (hh:h.Ok d.length) (hl:d.length≤1000000) (n:Nat) :
 af Tryz.prog 109 [h.v d.length,.int .i64 (n:Int)] (fun w=>By w h d) (wi (ey d n).1 (ey d n).2):=by
 refine af.aF ab Tryz.func109 rfl (by decide) (n:=Tryz.f109.ntmps - 2) rfl rfl fun w0 av=>?_
 conv=>whnf
 obtain⟨k,s,b,hL,hE⟩:=cJ d n
 refine ak.val (dA d h hh hl n) (fun w hw=>hw) (fun v D hv=>?_)
 rw[hL] at hv
 generalize hg:a7 d n=e at hv
 subst hv
 conv=>whnf
 intro b0
 conv=>whnf
 refine aH.split (fun he=>?_) (fun he=>?_)
 · have he':e≠0:=by
    simp[ar] at he
    omega
   have:ey d n=([],e):=by
    unfold ey
    rw[hg,if_pos he']
   rw[this]
   conv=>whnf
   exact dw
 have he':e=0:=by
  simp[ar] at he
  omega
 subst he'
 obtain⟨hd,hok,m,hm,hm32,hrk⟩:=cd hg
 have hm:n=m:=by omega
 subst hm
 obtain⟨hk,hs,hb⟩:=hE hg
 rw[Int.toNat_natCast] at hk hs hb
 conv=>whnf
 refine aH.split (fun h0=>?_) (fun h0=>?_)
 · have h0':n=0:=by
    simp[aD] at h0
    omega
   have:ey d n=([],12):=by
    unfold ey
    rw[hg,if_neg (by simp),if_pos h0']
   rw[this]
   conv=>whnf
   exact dw
 have h0':n≠0:=by
  simp[aD] at h0
  omega
 have hF:ey d n=(cS (cw d b 12) n 0 0 (fun _=>0),0):=by
  unfold ey
  rw[hg,if_neg (by simp),if_neg h0',hb]
 have hbl : ∀ i,i<12→b i<96:=by
  intro i hi
  by_cases hbi:b i=0
  · omega
  · rw[hb] at hbi ⊢
    exact(bD (hok.form n hm32) i hi hbi).2.1
 conv=>whnf
 have hln:=fO hd b
 refine aI.loop ab (ι:=Nat×Hd) ([8,9]++List.range' 22 15) (fun x=>x.1≤12∧x.2.Ok 12288)
  (fun x=>[(8,.v (x.2.v 12288)),(9,.v (.int .i64 (x.1:Int)))]) (fun _=>[bg k s b]) (fun x=>⟨fun w=>By w x.2 (cw d b x.1),[]⟩)
  (fun x=>12 - x.1) (0,h) ⟨Nat.zero_le _,by rw[← hd];exact hh⟩ ?_ rfl (aq.refl _) fun x hx=>?_
 · rw[← hd]
   conv=>whnf
   repeat (first | exact aw.nil | refine aw.any ?_ | refine aw.cons ?_)
 obtain⟨i,k2⟩:=x
 obtain⟨hi,hk2⟩:=hx
 dsimp only at hi hk2 ⊢
 conv=>whnf
 refine aH.split (fun hlt=>?_) (fun hlt=>?_)
 · conv=>whnf
   have hlt':i<12:=by
    simp only[au,decide_eq_true_eq] at hlt
    omega
   rw[bL hlt']
   conv=>whnf
   refine cF (x:=aE (b i)) (by dsimp only;rw[Nat.mul_one,Nat.zero_add];exact cP hlt') ?_
   conv=>whnf
   refine aH.split (fun hz=>?_) (fun hz=>?_)
   · have hz':b i≠0:=by
      simp[ar] at hz
      omega
     have hrel:cw d b (i+1)=zL (cw d b i) (b i):=by
      conv=>lhs;unfold cw
      rw[if_neg hz']
     have hrs:=mQ (cw d b i) k2 (by rw[hln];exact hk2) (hln i) (b i) (hbl i hlt')
     rw[hln,← hrel] at hrs
     conv=>whnf
     rw[bL hlt']
     conv=>whnf
     refine cF (x:=aE (b i)) (by dsimp only;rw[Nat.mul_one,Nat.zero_add];exact cP hlt') ?_
     conv=>whnf
     refine ak.pure hrs (fun w hw=>hw) (fun v D hv=>?_)
     obtain⟨k3,rfl,hk3,rfl⟩:=hv
     rw[hln] at hk3 ⊢
     conv=>whnf
     refine⟨(i+1,k3),⟨⟨hlt',hk3⟩,by dsimp only;omega⟩,?_,?_,?_⟩
     · conv=>whnf
       refine⟨?_,rfl⟩
       repeat (first | exact aw.nil | refine aw.any ?_ | refine aw.cons ?_ | refine aw.eq (by rw[wrap_i64 (by omega)];rfl) ?_)
     · conv=>whnf
       exact⟨⟨rfl,rfl⟩,trivial⟩
     · refine aq.of_le ⟨by simp[Fx.and],fun w hw=>hw.2⟩
   · have hz':b i=0:=by
      simp[ar] at hz
      omega
     have hrel:cw d b (i+1)=cw d b i:=by
      conv=>lhs;unfold cw
      rw[if_pos hz']
     conv=>whnf
     refine⟨(i+1,k2),⟨⟨hlt',hk2⟩,by dsimp only;omega⟩,?_,?_,?_⟩
     · conv=>whnf
       refine⟨?_,rfl⟩
       repeat (first | exact aw.nil | refine aw.any ?_ | refine aw.cons ?_ | refine aw.eq (by rw[wrap_i64 (by omega)];rfl) ?_)
     · conv=>whnf
       exact⟨⟨rfl,rfl⟩,trivial⟩
     · refine aq.of_le ⟨List.Sublist.refl _,fun w hw=>by dsimp only;rw[hrel];exact hw⟩
 · have hie:i=12:=by
    simp only[au,decide_eq_false_iff_not] at hlt
    omega
   subst hie
   have hpt:=fB (cw d b 12) k2 n 0 0 (fun _=>0) (by rw[hln];exact hk2) (hln 12) hm32 (by omega) (by omega) (fun j=>by omega)
   rw[hF]
   have hpl:=bf (hln 12) hm32 0 0 (fun _=>0)
   rw[hln] at hpt
   generalize cS (cw d b 12) n 0 0 (fun _=>0)=dd at *
   conv=>whnf
   refine ak.pure hpt (fun w hw=>hw) (fun v D hv=>?_)
   obtain⟨b3,c3,Z3,rfl,hc3,rfl⟩:=hv
   conv=>whnf
   exact⟨⟨fun _=>True,[(b3,Row.c (dd.map ao++Z3))]⟩,aq.of_le ⟨by simp[Fx.and],fun w hw=>trivial⟩,.inl ⟨b3,c3,Z3,rfl,hc3,rfl⟩⟩
def dg (d:List UInt8) (x:Nat):List UInt8:=if x=0 then List.replicate 128 0 else cut d (128*x) 128
theorem lC {d:List UInt8} (hd:d.length=12288) {x:Nat} (hx:x<96):(dg d x).length=128:=by
 unfold dg
 split
 · simp
 · exact aZ (by omega)
def dC (d:List UInt8) (b:Nat→Nat):Nat→List UInt8
 | 0=>[]
 | i+1=>dC d b i++dg d (b i)
theorem fD {d:List UInt8} (hd:d.length=12288) {b:Nat→Nat} : ∀ {i:Nat},(∀ j,j<i→b j<96)→(dC d b i).length=128*i
 | 0,_=>rfl
 | i+1,h=>by
  unfold dC
  rw[List.length_append,fD hd fun j hj=>h j (by omega),lC hd (h i (by omega))]
  omega
theorem nh (d:List UInt8) (h:Hd) (hh:h.Ok d.length) (hd:d.length=12288) (k s:Nat) (b:Nat→Nat) (hs:s≤1536) (hb : ∀ i,i<12→b i<96) :
 af Tryz.prog 108 [h.v d.length,.agg ⟨bg k s b⟩] (fun w=>By w h d) (lq ((dC d b 12).take s)):=by
 have hcl : ∀ i,i≤12→(dC d b i).length=128*i:=fun i hi=>fD hd fun j hj=>hb j (by omega)
 refine af.aF ab Tryz.func108 rfl (by decide) (n:=Tryz.f108.ntmps - 2) rfl rfl fun w0 av=>?_
 conv=>whnf
 intro b0
 conv=>whnf
 refine aI.loop ab (ι:=Nat×Option Addr×Nat×List Value) ([5,6]++List.range' 7 19) (fun x=>x.1≤12∧Own 1 (128*x.1) x.2.1 x.2.2.1 x.2.2.2 ((dC d b x.1).map ao))
  (fun x=>[(5,.v (.slice x.2.1 (128*x.1) x.2.2.1)),(6,.v (.int .i64 (x.1:Int)))]) (fun _=>[bg k s b]) (fun x=>⟨fun w=>By w h d,aR x.2.1 x.2.2.2⟩)
  (fun x=>12 - x.1) (0,none,0,[]) ⟨Nat.zero_le _,Own.nil 1⟩ ?_ rfl (aq.of_le ⟨by simp[aR],fun w hw=>hw⟩) fun x hx=>?_
 · conv=>whnf
   repeat (first | exact aw.nil | refine aw.any ?_ | refine aw.cons ?_)
 obtain⟨i,a,cap,C⟩:=x
 obtain⟨hi,hO⟩:=hx
 dsimp only at hi hO ⊢
 conv=>whnf
 refine aH.split (fun hlt=>?_) (fun hlt=>?_)
 · conv=>whnf
   have hlt':i<12:=by
    simp only[au,decide_eq_true_eq] at hlt
    omega
   rw[bL hlt']
   conv=>whnf
   refine cF (x:=aE (b i)) (by dsimp only;rw[Nat.mul_one,Nat.zero_add];exact cP hlt') ?_
   conv=>whnf
   refine aH.split (fun hz=>?_) (fun hz=>?_)
   · have hz':b i=0:=by
      simp[aD] at hz
      omega
     have hB:dg d (b i)=List.replicate 128 0:=by
      unfold dg
      rw[if_pos hz']
     conv=>whnf
     refine aj.c_ (F':=⟨fun w=>By w h d,[]++aR a C ++ []⟩) (aq.of_le ⟨by simp,fun w hw=>hw⟩) ?_
     refine aj.rI ab (t:=23) (xt:=3) rfl rfl rfl rfl rfl rfl (m:=128) (r1:=[]) (r2:=[]) hO (by rw[j6];exact gm) (by decide) (by omega) (by simp;omega) fun a' c' C' hO'=>?_
     rw[j6] at hO'
     conv=>whnf
     refine⟨(i+1,a',c',C'),⟨⟨hlt',?_⟩,by dsimp only;omega⟩,?_,?_,?_⟩
     · dsimp only
       unfold dC
       rw[hB,List.map_append]
       exact hO'
     · conv=>whnf
       refine⟨?_,rfl⟩
       repeat (first | exact aw.nil | refine aw.any ?_ | refine aw.cons ?_ | refine aw.eq (by rw[wrap_i64 (by omega)];rfl) ?_)
     · conv=>whnf
       exact⟨⟨rfl,rfl⟩,trivial⟩
     · refine aq.of_le ⟨by simp,fun w hw=>hw⟩
   · have hz':b i≠0:=by
      simp[aD] at hz
      omega
     have hB:dg d (b i)=cut d (128*b i) 128:=by
      unfold dg
      rw[if_neg hz']
     have hbi:=hb i hlt'
     conv=>whnf
     rw[bL hlt']
     conv=>whnf
     refine cF (x:=aE (b i)) (by dsimp only;rw[Nat.mul_one,Nat.zero_add];exact cP hlt') ?_
     conv=>whnf
     refine ak.val (ea h d.length (b i) hh (by omega) (by omega)) (fun w hw=>trivial) (fun v D hv=>?_)
     subst hv
     conv=>whnf
     refine aj.c_ (F':=⟨fun w=>By w h d,[]++aR a C ++ []⟩) (aq.of_le ⟨by simp,fun w hw=>hw⟩) ?_
     have hc:=hh.cap
     refine aj.append ab (t:=23) (xt:=23) rfl rfl rfl rfl rfl rfl (r1:=[]) (r2:=[]) (M:=(dg d (b i)).map ao) hO (.fact fun w hw=>by rw[hB];exact By.sub hw (by omega)) (by simp[lC hd hbi]) (fun v hv=>gm v hv) (by omega) (by simp;omega) fun a' c' C' hO'=>?_
     conv=>whnf
     refine⟨(i+1,a',c',C'),⟨⟨hlt',?_⟩,by dsimp only;omega⟩,?_,?_,?_⟩
     · dsimp only
       unfold dC
       rw[List.map_append]
       exact hO'
     · conv=>whnf
       refine⟨?_,rfl⟩
       repeat (first | exact aw.nil | refine aw.any ?_ | refine aw.cons ?_ | refine aw.eq (by rw[wrap_i64 (by omega)];rfl) ?_)
     · conv=>whnf
       exact⟨⟨rfl,rfl⟩,trivial⟩
     · refine aq.of_le ⟨by simp,fun w hw=>hw⟩
 · have hie:i=12:=by
    simp only[au,decide_eq_false_iff_not] at hlt
    omega
   subst hie
   obtain⟨bb,rfl⟩:=ij hO (by omega)
   have hfit:=hO.fit
   conv=>whnf
   refine aj.ah (ai.gA ab (t:=23) rfl rfl rfl (h:=⟨some ⟨bb,0,none⟩,cap⟩) s rfl (by dsimp only;omega) ?_)
   conv=>whnf
   have hsl:((dC d b 12).take s).length=s:=by
    rw[List.length_take,hcl 12 (Nat.le_refl _)]
    omega
   refine⟨⟨fun w=>By w ⟨some ⟨bb,0,none⟩,cap⟩ ((dC d b 12).take s),[]⟩,(Own.gives hO).trans (aq.imp fun w hw=>?_),⟨some ⟨bb,0,none⟩,cap⟩,?_,?_,rfl⟩
   · have:=aB.take hw.2 s
     unfold By
     rw[List.map_take]
     exact this
   · rw[hsl]
   · rw[hsl]
     exact⟨fun h=>(by cases h),by dsimp only;omega⟩
noncomputable def ay (d:List UInt8) (n:Nat):List UInt8:=if a7 d n≠0 then [] else (dC d (rb d n) 12).take (rs d n)
theorem fT {d:List UInt8} {n:Nat} (h:cH d n=true):rs d n≤1536:=by
 unfold cH at h
 rw[Bool.and_eq_true] at h
 have h2:=h.2
 split at h2
 · rename_i hz
   rw[(cW.1 hz).2.1]
   omega
 · rw[decide_eq_true_eq] at h2
   exact h2.2.1
theorem eo {d:List UInt8} (ho:eZ d) {n:Nat} (hn:n<32) {i:Nat} (hi:i<12):rb d n i<96:=by
 by_cases h0:rb d n i=0
 · omega
 · exact(bD (ho.form n hn) i hi h0).2.1
theorem jU (d:List UInt8) (h:Hd) (hh:h.Ok d.length) (hl:d.length≤1000000) (n:Nat) :
 af Tryz.prog 105 [h.v d.length,.int .i64 (n:Int)] (fun w=>By w h d) (lq (ay d n)):=by
 refine af.aF ab Tryz.func105 rfl (by decide) (n:=Tryz.f105.ntmps - 2) rfl rfl fun w0 av=>?_
 conv=>whnf
 obtain⟨k,s,b,hL,hE⟩:=cJ d n
 refine ak.val (dA d h hh hl n) (fun w hw=>hw) (fun v D hv=>?_)
 rw[hL] at hv
 generalize hg:a7 d n=e at hv
 subst hv
 conv=>whnf
 intro b0
 conv=>whnf
 refine aH.split (fun he=>?_) (fun he=>?_)
 · have he':e≠0:=by
    simp[ar] at he
    omega
   have:ay d n = []:=by
    unfold ay
    rw[hg,if_pos he']
   rw[this]
   conv=>whnf
   exact⟨⟨fun w=>By w Hd.nil [],[]⟩,aq.bare fun w _=>By.nil w,Hd.nil,rfl,Hd.dq,rfl⟩
 have he':e=0:=by
  simp[ar] at he
  omega
 subst he'
 obtain⟨hd,hok,m,hm,hm32,hrk⟩:=cd hg
 have hm:n=m:=by omega
 subst hm
 obtain⟨hk,hs,hb⟩:=hE hg
 rw[Int.toNat_natCast] at hk hs hb
 have hR:ay d n=(dC d b 12).take s:=by
  unfold ay
  rw[hg,if_neg (by simp),hb,hs]
 rw[hR]
 conv=>whnf
 refine ak.pure (nh d h hh hd k s b (by rw[hs];exact fT (hok.form n hm32)) (fun i hi=>by rw[hb];exact eo hok hm32 hi)) (fun w hw=>hw) (fun v D hv=>?_)
 obtain⟨k3,rfl,hk3,rfl⟩:=hv
 conv=>whnf
 exact⟨_,aq.of_le ⟨by simp[Fx.and],fun w hw=>hw.2⟩,k3,rfl,hk3,rfl⟩
theorem aq.nE {D:World→Prop} {b:Nat} {l:List UInt8} {Z:List Value}:aq ⟨D,[(b,Row.c (l.map ao++Z))]⟩ ⟨fun w=>D w∧aB w (some ⟨b,0,none⟩) (l.map ao),[]⟩:=by
 refine aq.share1.trans (aq.imp fun w h=>⟨h.1,?_⟩)
 have:=h.2.take l.length
 have e:l.length=(l.map ao).length:=by simp
 rw[e,List.take_left] at this
 exact this
section
variable {P:Program} {aK:Sx.fk} {w0:World} {R:Nat→Nat→Prop} {av:Nat→Prop} {bs:List (Nat×Nat)} {cs:List (List Value)} {F:Fx}
theorem ai.max {ts:Array TypeId} {ty:TypeId} {a b:Nat} {K:Value→Prop} (h:K (aE (max a b))) :
 ai P w0 R av (Builtin.max_ ts ty #[aE a,aE b]) bs cs F K:=by
 refine(aQ _ _ _ _).2 ⟨_,fun w _=>?_,h⟩
 have e:(aE (Max.max a b)) = .int .i64 (if (a:Int)<(b:Int) then (b:Int) else (a:Int)):=by
  unfold aE
  congr 1
  split<;>omega
 rw[e]
 rfl
end
section
variable {P:Program} {aK:Sx.fk} {w0:World} {R:Nat→Nat→Prop} {av:Nat→Prop} {bs:List (Nat×Nat)} {cs:List (List Value)} {F:Fx}
theorem ai.f_ (hT:bn P aK) {t:TypeId} {ti te:TI} {e:TypeId} (ht:Sx.look aK t=some ti) (hk:ti.k = .slice e) (he:Sx.look aK e=some te) (hsz:te.size=1) {b o n c:Nat} {k:IntKind} {i:Int} {K:Value→Prop}
 (j:Nat) (hj:i=(j:Int)) (h1:j<n) (h:K (.pointer (some ⟨b,o+j,none⟩))):ai P w0 R av (Instr.indexAt t (.slice (some ⟨b,o,none⟩) n c) (.int k i)) bs cs F K:=by
 subst hj
 refine ai.index hT ht hk he (by omega) (by omega) (fun h=>by cases h) fun ad had=>?_
 cases had
 rw[hsz,Nat.mul_one,Int.toNat_natCast,Addr.aV]
 exact h
end
def wt (d:List UInt8) (b:Nat→Nat):Nat→Option (List UInt8×(Nat→Nat))
 | 0=>some (d,b)
 | i+1=>match wt d b i with
  | none=>none
  | some (o,b')=>if b' i=0 then (match cI (bA o) with
   | none=>none
   | some x=>some (cG o x,fun j=>if j=i then x else b' j)) else some (o,b')
theorem zo {d:List UInt8} {b:Nat→Nat} {i:Nat} (h:wt d b i=none) : ∀ {j:Nat},i≤j→wt d b j=none
 | 0,hj=>by
  have:i=0:=by omega
  subst this
  exact h
 | j+1,hj=>by
  rcases Nat.lt_or_eq_of_le hj with h1 | h1
  · have:=zo h (j:=j) (by omega)
    unfold wt
    rw[this]
  · rw[← h1]
    exact h
def wd (o:List UInt8) (b:Nat→Nat) (data:List UInt8):Nat→List UInt8
 | 0=>o
 | k+1=>dm (wd o b data k) (128*b (k/128)+k%128) (aJ data k)
theorem ka (o:List UInt8) (b:Nat→Nat) (data:List UInt8) : ∀ k,(wd o b data k).length=o.length
 | 0=>rfl
 | k+1=>by
  unfold wd
  rw[dn,ka o b data k]
noncomputable def bQ (d:List UInt8) (n:Nat) (data:List UInt8):List UInt8×Nat:=
 if a7 d n≠0 then ([],a7 d n) else if data.length=0 then (d,0) else if (if rk d n=2 then 128 else 1536)<data.length then ([],6)
 else match wt d (rb d n) ((data.length+127)/128) with
  | none=>([],13)
  | some (o,b)=>(cS (wd o b data data.length) n (rk d n) (max (rs d n) data.length) b,0)
theorem l5 (d:List UInt8) (h:Hd) (hh:h.Ok d.length) (hl:d.length≤1000000) (n:Nat) (off:Int) (ho:off=0) (data:List UInt8) (kd:Hd) (hkd:kd.Ok data.length) (hdl:data.length≤1000000) :
 af Tryz.prog 36 [h.v d.length,.int .i64 (n:Int),.int .i64 off,kd.v data.length] (fun w=>By w h d∧By w kd data) (wi (bQ d n data).1 (bQ d n data).2):=by
 refine af.aF ab Tryz.func36 rfl (by decide) (n:=Tryz.f36.ntmps - 4) rfl rfl fun w0 av=>?_
 conv=>whnf
 obtain⟨k,s,b,hL,hE⟩:=cJ d n
 refine ak.val (dA d h hh hl n) (fun w hw=>hw.1) (fun v D hv=>?_)
 rw[hL] at hv
 generalize hg:a7 d n=e at hv
 subst hv
 conv=>whnf
 intro b0
 conv=>whnf
 refine aH.split (fun he=>?_) (fun he=>?_)
 · have he':e≠0:=by
    simp[ar] at he
    omega
   have:bQ d n data=([],e):=by
    unfold bQ
    rw[hg,if_pos he']
   rw[this]
   conv=>whnf
   exact dw
 have he':e=0:=by
  simp[ar] at he
  omega
 obtain⟨hd,hok,m,hm,hm32,hrk⟩:=cd (hg.trans he')
 have hm:n=m:=by omega
 subst hm
 obtain⟨hk,hs,hb⟩:=hE (hg.trans he')
 rw[Int.toNat_natCast] at hk hs hb
 have hbl : ∀ i,i<12→b i<96:=fun i hi=>by rw[hb];exact eo hok hm32 hi
 have hbm : ∀ i,b i≤1000000:=fun i=>by
  have:=pn d n i
  rw[hb]
  omega
 have hs2:s≤1536:=by rw[hs];exact fT (hok.form n hm32)
 have hk2:k<256:=by rw[hk];exact lX d n
 have hW : ∀ most:Nat,(if k=2 then 128 else 1536)=most→bQ d n data=(if data.length=0 then (d,0) else if most<data.length then ([],6)
  else match wt d b ((data.length+127)/128) with
   | none=>([],13)
   | some (o,b')=>(cS (wd o b' data data.length) n k (max s data.length) b',0)):=by
  intro most hmm
  unfold bQ
  rw[hg,if_neg (by omega),← hk,hmm,← hs,← hb]
 generalize hWR:bQ d n data=WR at *
 conv=>whnf
 refine aH.split (fun hk2=>?_) (fun hk2=>?_)
 all_goals
  obtain⟨most,hmost⟩ : ∃ m:Nat,(if k=2 then 128 else 1536)=m:=⟨_,rfl⟩
  have hW:=hW most hmost
  conv=>whnf
  refine aH.no (by subst ho;simp[au]) ?_
  conv=>whnf
  refine aj.build ab (t:=23) rfl rfl rfl [] rfl rfl (by simp) (by decide) fun b1=>?_
  conv=>whnf
  refine aj.c_ (F':=⟨fun w=>By w h d∧By w kd data,[]⟩) (aq.of_le ⟨by simp,fun w hw=>hw⟩) ?_
  refine aj.eQ ab (t:=23) (xt:=23) rfl rfl rfl rfl rfl rfl rfl rfl (l:=d) (.fact fun w hw=>hw.1) (by omega) (by omega) fun b2 c2 Z hc2 hZ=>?_
  conv=>whnf
  refine aH.split (fun h0=>?_) (fun h0=>?_)
  · have h0':data.length=0:=by
     simp[aD] at h0
     simp[h0]
    rw[if_pos h0'] at hW
    conv=>whnf
    rw[hW]
    exact⟨⟨fun _=>True,[(b2,Row.c (d.map ao++Z))]⟩,aq.of_le ⟨by simp,fun w hw=>trivial⟩,.inl ⟨b2,c2,Z,rfl,hc2,rfl⟩⟩
  have h0':data.length≠0:=by
   simp[aD] at h0
   simp
   exact h0
  rw[if_neg h0'] at hW
  conv=>whnf
  repeat (refine aa.of ?_;conv=>whnf)
  have hmv:(most=128∧cN (k:Int) 2=true)∨(most=1536∧cN (k:Int) 2=false):=by
   rw[show cN (k:Int) 2=decide (k=2) from dP k 2]
   by_cases hq:k=2
   · rw[if_pos hq] at hmost
     exact .inl ⟨hmost.symm,by simp[hq]⟩
   · rw[if_neg hq] at hmost
     exact .inr ⟨hmost.symm,by simp[hq]⟩
  rw[hk2] at hmv
  simp only[Bool.true_eq_false,Bool.false_eq_true,and_true,and_false,or_false,false_or] at hmv
  subst hmv
  refine aH.split (fun hlim=>?_) (fun hlim=>?_)
  · have hlim' : ¬ data.length≤(if k=2 then 128 else 1536):=by
     rw[hmost]
     subst ho
     simp[bP] at hlim
     rw[wrap_i64 (by omega)] at hlim
     omega
    rw[hmost] at hlim'
    rw[if_pos (by omega)] at hW
    conv=>whnf
    rw[hW]
    exact dw
  have hlim':data.length≤(if k=2 then 128 else 1536):=by
   rw[hmost]
   subst ho
   simp[bP] at hlim
   rw[wrap_i64 (by omega)] at hlim
   omega
  rw[hmost] at hlim'
  rw[if_neg (by omega)] at hW
  have hlen:data.length≤1536:=by omega
  have e0:IntKind.i64.wrap (Int.tdiv off (Int.ofNat 128))=((0:Nat):Int):=by
   subst ho
   rfl
  conv=>whnf
  rw[e0]
  conv=>whnf
  have hml:(data.length+127)/128≤12:=by omega
  have e1 : ∀ i:Nat,i≤12→IntKind.i64.wrap ((i:Int)*128)=((i*128:Nat):Int):=fun i hi=>by
   rw[wrap_i64 (by omega)]
   omega
  have e2:IntKind.i64.wrap (off+(data.length:Int))=(data.length:Int):=by
   subst ho
   rw[wrap_i64 (by omega)]
   omega
  generalize hwt:wt d b=WT at *
  have hwt0:WT 0=some (d,b):=by
   rw[← hwt]
   rfl
  have hwtS : ∀ i,WT (i+1)=match WT i with
   | none=>none
   | some (o,b')=>if b' i=0 then (match cI (bA o) with
    | none=>none
    | some x=>some (cG o x,fun j=>if j=i then x else b' j)) else some (o,b'):=fun i=>by
   rw[← hwt]
   rfl
  have hwtN : ∀ i j,WT i=none→i≤j→WT j=none:=fun i j h1 h2=>by
   rw[← hwt] at h1 ⊢
   exact zo h1 h2
  refine aI.loop ab (ι:=Nat×List UInt8×(Nat→Nat)×Nat×Nat×List Value) ([11,13,14]++List.range' 51 26)
   (fun x=>x.1≤(data.length+127)/128∧WT x.1=some (x.2.1,x.2.2.1)∧x.2.1.length=12288∧12288≤x.2.2.2.2.1∧(∀ j,j<12→x.2.2.1 j<96)∧∀ j,x.2.2.1 j≤1000000)
   (fun x=>[(13,.v (.slice (some ⟨x.2.2.2.1,0,none⟩) x.2.1.length x.2.2.2.2.1)),(14,.v (.int .i64 (x.1:Int)))]) (fun x=>[bg k s x.2.2.1]) (fun x=>⟨fun w=>By w kd data,[(x.2.2.2.1,Row.c (x.2.1.map ao++x.2.2.2.2.2))]⟩)
   (fun x=>12 - x.1) (0,d,b,b2,c2,Z) ⟨Nat.zero_le _,hwt0,hd,by dsimp only;omega,hbl,hbm⟩ ?_ rfl (aq.of_le ⟨by simp,fun w hw=>hw.2⟩) fun x hx=>?_
  · conv=>whnf
    repeat (first | exact aw.nil | refine aw.any ?_ | refine aw.cons ?_)
  obtain⟨i,o,b',bb,cap,Z'⟩:=x
  obtain⟨hi,hwi,hol,hcap,hbl',hbm'⟩:=hx
  dsimp only at hi hwi hol hcap hbl' hbm' ⊢
  conv=>whnf
  refine aH.split (fun hlt=>?_) (fun hlt=>?_)
  · have hlt':i*128<data.length:=by
     rw[e1 i (by omega),e2] at hlt
     simp only[au,decide_eq_true_eq] at hlt
     omega
    have hi12:i<12:=by omega
    conv=>whnf
    rw[bL hi12]
    conv=>whnf
    refine cF (x:=aE (b' i)) (by dsimp only;rw[Nat.mul_one,Nat.zero_add];exact cP hi12) ?_
    conv=>whnf
    have hS:=hwtS i
    rw[hwi] at hS
    dsimp only at hS
    refine aH.split (fun hz=>?_) (fun hz=>?_)
    · have hz':b' i=0:=by
       simp[aD] at hz
       omega
      rw[if_pos hz'] at hS
      conv=>whnf
      refine ak.c_ (F':=⟨fun w=>By w kd data∧aB w (some ⟨bb,0,none⟩) (o.map ao),[]⟩) aq.nE ?_
      cases hf:cI (bA o) with
      | none=>
       obtain⟨e3,he3⟩ : ∃ e:Nat,e=13:=⟨_,rfl⟩
       refine ak.pure (og o ⟨some ⟨bb,0,none⟩,cap⟩ ⟨fun h=>(by cases h),by dsimp only;omega⟩ hol hf e3 he3) (fun w hw=>hw.2) (fun v D hv=>?_)
       obtain⟨k3,rfl,hk3,rfl⟩:=hv
       conv=>whnf
       rw[bL hi12]
       conv=>whnf
       refine eB (by simp[bg];omega) ?_
       conv=>whnf
       refine aH.yes (by subst he3;simp[ar]) ?_
       conv=>whnf
       rw[hf] at hS
       have hWn:=hwtN (i+1) ((data.length+127)/128) hS (by omega)
       rw[hWn] at hW
       rw[hW]
       subst he3
       exact dw
      | some x=>
       obtain⟨hx1,hx2⟩:=dK hf
       obtain⟨e3,he3⟩ : ∃ e:Nat,e=0:=⟨_,rfl⟩
       refine ak.pure (mq o ⟨some ⟨bb,0,none⟩,cap⟩ ⟨fun h=>(by cases h),by dsimp only;omega⟩ hol x hf e3 he3) (fun w hw=>hw.2) (fun v D hv=>?_)
       obtain⟨b3,c3,Z3,rfl,hc3,rfl⟩:=hv
       have htl:=cY hol hx2
       conv=>whnf
       rw[bL hi12]
       conv=>whnf
       refine eB (by simp[bg];omega) ?_
       conv=>whnf
       refine aH.no (by subst he3;simp[ar]) ?_
       conv=>whnf
       rw[hf] at hS
       dsimp only at hS
       refine⟨(i+1,cG o x,fun j=>if j=i then x else b' j,b3,c3,Z3),⟨⟨by dsimp only;omega,hS,htl,by dsimp only;omega,fun j hj=>?_,fun j=>?_⟩,by dsimp only;omega⟩,?_,?_,?_⟩
       · dsimp only
         split
         · exact hx2
         · exact hbl' j hj
       · dsimp only
         split
         · omega
         · exact hbm' j
       · conv=>whnf
         refine⟨?_,rfl⟩
         repeat (first | exact aw.nil | refine aw.any ?_ | refine aw.cons ?_ | refine aw.eq (by rw[wrap_i64 (by omega)];rfl) ?_)
       · conv=>whnf
         refine⟨⟨rfl,?_⟩,trivial⟩
         dsimp only
         rw[Nat.mul_one,Nat.zero_add]
         exact ju hi12 x
       · refine aq.of_le ⟨by simp[Fx.and],fun w hw=>hw.1.1⟩
    · have hz':b' i≠0:=by
       simp[aD] at hz
       omega
      rw[if_neg hz'] at hS
      conv=>whnf
      refine⟨(i+1,o,b',bb,cap,Z'),⟨⟨by dsimp only;omega,hS,hol,hcap,hbl',hbm'⟩,by dsimp only;omega⟩,?_,?_,aq.refl _⟩
      · conv=>whnf
        refine⟨?_,rfl⟩
        repeat (first | exact aw.nil | refine aw.any ?_ | refine aw.cons ?_ | refine aw.eq (by rw[wrap_i64 (by omega)];rfl) ?_)
      · conv=>whnf
        exact⟨⟨rfl,rfl⟩,trivial⟩
  · have hie:i=(data.length+127)/128:=by
     rw[e1 i (by omega),e2] at hlt
     simp only[au,decide_eq_false_iff_not] at hlt
     omega
    rw[← hie,hwi] at hW
    dsimp only at hW
    conv=>whnf
    have hwl:=ka o b' data
    refine aI.loop ab (ι:=Nat) ([15,16]++List.range' 77 25) (fun x=>x≤data.length)
     (fun x=>[(15,.v (.int .i64 (x:Int)))]) (fun x=>[bg k s b']) (fun x=>⟨fun w=>By w kd data,[(bb,Row.c ((wd o b' data x).map ao++Z'))]⟩)
     (fun x=>data.length - x) 0 (Nat.zero_le _) ?_ rfl (aq.refl _) fun q hq=>?_
    · conv=>whnf
      repeat (first | exact aw.nil | refine aw.any ?_ | refine aw.cons ?_)
    conv=>whnf
    refine aH.split (fun hlt2=>?_) (fun hlt2=>?_)
    · have hlt2':q<data.length:=by
       simp only[au,decide_eq_true_eq] at hlt2
       omega
      have hq12:q/128<12:=by omega
      have hbq:=hbl' _ hq12
      have e3:IntKind.i64.wrap (off+(q:Int))=(q:Int):=by
       subst ho
       rw[wrap_i64 (by omega)]
       omega
      have e4:IntKind.i64.wrap (Int.tdiv (q:Int) (Int.ofNat 128))=((q/128:Nat):Int):=kI q 128 (by omega)
      have e5:Int.tmod (q:Int) (Int.ofNat 128)=((q%128:Nat):Int):=dL q 128
      have hws:wd o b' data (q+1)=dm (wd o b' data q) (128*b' (q/128)+q%128) (aJ data q):=rfl
      have hwlq:=hwl q
      conv=>whnf
      rw[e3,e4]
      generalize wd o b' data q=wq at *
      refine aI.draw ab mixed rfl rfl ?_
      conv=>whnf
      repeat' (first
       | (refine And.intro ?_ ?_<;>conv=>whnf)
       | (refine ax.same rfl ?_;conv=>whnf)
       | (refine ax.row rfl ?_;conv=>whnf)
       | (refine ax.call rfl ?_;conv=>whnf)
       | (refine bG.of ?_;conv=>whnf)
       | (refine aa.of ?_;conv=>whnf)
       | (rw[bL hq12];conv=>whnf)
       | (refine cF (x:=aE (b' (q/128))) (by dsimp only;rw[Nat.mul_one,Nat.zero_add];exact cP hq12) ?_;conv=>whnf)
       | (refine ak.val (ea ⟨some ⟨bb,0,none⟩,cap⟩ o.length (b' (q/128)) ⟨fun h=>(by cases h),by dsimp only;omega⟩ (by omega) (by omega)) (fun w hw=>trivial) (fun v D hv=>?_);rw[dO (by omega)] at hv;subst hv;conv=>whnf)
       | (refine ai.cL ab (t:=23) rfl rfl rfl rfl q rfl hlt2' hkd fun ad had=>?_;conv=>whnf)
       | (refine ai.cy ab (t:=5) rfl rfl had (.fact fun w h=>h) rfl hlt2' ?_;conv=>whnf)
       | (refine ai.f_ ab (t:=23) rfl rfl rfl rfl (q%128) (by rw[e3];exact e5) (Nat.mod_lt _ (by decide)) ?_;conv=>whnf)
       | (refine a_.cC ab (t:=5) rfl rfl (r1:=[]) (r2:=[]) (l:=wq) (Z:=Z') (aJ data q) rfl rfl (bJ _ _) (by omega) ?_;conv=>whnf)
       | (refine ax.mk ?_ ?_;(focus (first | exact aq.refl _ | exact aq.left _ _ | exact aq.of_le ⟨List.sublist_append_left _ _,fun w h=>h⟩ | exact aq.of_le ⟨List.Sublist.refl _,fun w h=>h.1⟩));conv=>whnf))
      all_goals
       refine⟨q+1,⟨hlt2',by dsimp only;omega⟩,?_,?_,?_⟩
       · conv=>whnf
         refine⟨?_,rfl⟩
         repeat (first | exact aw.nil | refine aw.any ?_ | refine aw.cons ?_ | refine aw.eq (by rw[wrap_i64 (by omega)];rfl) ?_)
       · conv=>whnf
         exact⟨⟨rfl,rfl⟩,trivial⟩
       · refine aq.of_le ⟨by simp only[hws];exact List.Sublist.refl _,fun w hw=>hw⟩
    · have hqe:q=data.length:=by
       simp only[au,decide_eq_false_iff_not] at hlt2
       omega
      subst hqe
      have hwq:=hwl data.length
      have hpt:=fB (wd o b' data data.length) ⟨some ⟨bb,0,none⟩,cap⟩ n k (max s data.length) b' ⟨fun h=>(by cases h),by dsimp only;omega⟩ (by omega) hm32 (by omega) (by omega) hbm'
      have hpl:=bf (hwq.trans hol) hm32 k (max s data.length) b'
      rw[hW]
      generalize cS (wd o b' data data.length) n k (max s data.length) b'=dd at *
      rw[hwq] at hpt
      generalize wd o b' data data.length=wq at *
      conv=>whnf
      rw[e2]
      refine aj.ah (ai.max (a:=s) (b:=data.length) ?_)
      conv=>whnf
      refine ak.c_ (F':=⟨fun w=>By w kd data∧aB w (some ⟨bb,0,none⟩) (wq.map ao),[]⟩) aq.nE ?_
      refine ak.pure hpt (fun w hw=>hw.2) (fun v D hv=>?_)
      obtain⟨b3,c3,Z3,rfl,hc3,rfl⟩:=hv
      conv=>whnf
      exact⟨⟨fun _=>True,[(b3,Row.c (dd.map ao++Z3))]⟩,aq.of_le ⟨by simp[Fx.and],fun w hw=>trivial⟩,.inl ⟨b3,c3,Z3,rfl,hc3,rfl⟩⟩
theorem nz (d:List UInt8) (h:Hd) (hh:h.Ok d.length) (hl:d.length≤1000000) (n:Nat) (off:Int) (ho:off=0) (data:List UInt8) (kd:Hd) (hkd:kd.Ok data.length) (hdl:data.length≤1000000) :
 af Tryz.prog 36 [h.v d.length,.int .i64 (n:Int),.int .i64 off,kd.v data.length] (fun w=>By w h d∧By w kd data) (fJ (bQ d n data).1 (bQ d n data).2):=mb (l5 d h hh hl n off ho data kd hkd hdl)
end Go.Proofs.YtfeoedkmndkbjaaGreatDoor
namespace Go.Proofs
open Go.Shelf
def Tryz.w9:Go.Shelf.Ren:=⟨fun | 143=>167 | 219=>189 | 217=>200 | 225=>201 | 224=>202 | 267=>203 | 266=>206 | 314=>207 | n=>n,fun | 9=>9 | 3=>3 | 4=>4 | 5=>5 | 46=>190 | 146=>250 | 51=>230 | n=>n,fun | 1=>0 | n=>n⟩
theorem Tryz.C8:Go.Proofs.Lays.n143 Tryz.prog Tryz.w9:={
 mixed:=by kernel_rfl
 f143:=Tryz.func167.trans (congrArg some (by kernel_rfl))
 f217:=Tryz.func200.trans (congrArg some (by kernel_rfl))
 f219:=Tryz.func189.trans (congrArg some (by kernel_rfl))
 f224:=Tryz.func202.trans (congrArg some (by kernel_rfl))
 f225:=Tryz.func201.trans (congrArg some (by kernel_rfl))
 f266:=Tryz.func206.trans (congrArg some (by kernel_rfl))
 f267:=Tryz.func203.trans (congrArg some (by kernel_rfl))
 f314:=Tryz.func207.trans (congrArg some (by kernel_rfl))
 t3:=Tryz.underlying3
 a3:=Tryz.isAgg3
 z3:=Tryz.sizeOf3
 v3:=Tryz.zeroValue3
 t4:=Tryz.underlying4
 a4:=Tryz.isAgg4
 z4:=Tryz.sizeOf4
 v4:=Tryz.zeroValue4
 t5:=Tryz.underlying5
 a5:=Tryz.isAgg5
 z5:=Tryz.sizeOf5
 v5:=Tryz.zeroValue5
 t9:=Tryz.underlying9
 a9:=Tryz.isAgg9
 z9:=Tryz.sizeOf9
 v9:=Tryz.zeroValue9
 t46:=Tryz.underlying190
 a46:=Tryz.isAgg190
 z46:=Tryz.sizeOf190
 v46:=Tryz.zeroValue190
 t51:=Tryz.underlying230
 a51:=Tryz.isAgg230
 z51:=Tryz.sizeOf230
 v51:=Tryz.zeroValue230
 t146:=Tryz.underlying250
 a146:=Tryz.isAgg250
 z146:=Tryz.sizeOf250
 v146:=Tryz.zeroValue250
 g1:=by kernel_rfl }
open Go.RowKit Go.Lib in
theorem Tryz.strings_Index_one (s:ByteArray) (c:UInt8) (w:World) :
 Calls Tryz.prog 167 #[.string s,.string ⟨#[c]⟩] w fun e w'=>e = .returned (.int .i64 (Lib.indexByte s.data.toList c))∧w'=w:=Any.strings_Index_one Tryz.C8 s c w
def Tryz.wh:Go.Shelf.Ren:=⟨fun | 138=>166 | 195=>186 | 218=>188 | 143=>167 | 219=>189 | 217=>200 | 225=>201 | 224=>202 | 267=>203 | 266=>206 | 314=>207 | n=>n,fun | 9=>9 | 3=>3 | 4=>4 | 5=>5 | 0=>0 | 46=>190 | 146=>250 | 51=>230 | n=>n,fun | 1=>0 | n=>n⟩
theorem Tryz.CX:Go.Proofs.Lays.n138 Tryz.prog Tryz.wh:={
 mixed:=by kernel_rfl
 f138:=Tryz.func166.trans (congrArg some (by kernel_rfl))
 f143:=Tryz.func167.trans (congrArg some (by kernel_rfl))
 f195:=Tryz.func186.trans (congrArg some (by kernel_rfl))
 f217:=Tryz.func200.trans (congrArg some (by kernel_rfl))
 f218:=Tryz.func188.trans (congrArg some (by kernel_rfl))
 f219:=Tryz.func189.trans (congrArg some (by kernel_rfl))
 f224:=Tryz.func202.trans (congrArg some (by kernel_rfl))
 f225:=Tryz.func201.trans (congrArg some (by kernel_rfl))
 f266:=Tryz.func206.trans (congrArg some (by kernel_rfl))
 f267:=Tryz.func203.trans (congrArg some (by kernel_rfl))
 f314:=Tryz.func207.trans (congrArg some (by kernel_rfl))
 t0:=Tryz.underlying0
 a0:=Tryz.isAgg0
 z0:=Tryz.sizeOf0
 v0:=Tryz.zeroValue0
 t3:=Tryz.underlying3
 a3:=Tryz.isAgg3
 z3:=Tryz.sizeOf3
 v3:=Tryz.zeroValue3
 t4:=Tryz.underlying4
 a4:=Tryz.isAgg4
 z4:=Tryz.sizeOf4
 v4:=Tryz.zeroValue4
 t5:=Tryz.underlying5
 a5:=Tryz.isAgg5
 z5:=Tryz.sizeOf5
 v5:=Tryz.zeroValue5
 t9:=Tryz.underlying9
 a9:=Tryz.isAgg9
 z9:=Tryz.sizeOf9
 v9:=Tryz.zeroValue9
 t46:=Tryz.underlying190
 a46:=Tryz.isAgg190
 z46:=Tryz.sizeOf190
 v46:=Tryz.zeroValue190
 t51:=Tryz.underlying230
 a51:=Tryz.isAgg230
 z51:=Tryz.sizeOf230
 v51:=Tryz.zeroValue230
 t146:=Tryz.underlying250
 a146:=Tryz.isAgg250
 z146:=Tryz.sizeOf250
 v146:=Tryz.zeroValue250
 g1:=by kernel_rfl }
open Go.RowKit Go.Lib in
theorem Tryz.strings_Count_one (s:ByteArray) (c:UInt8) (w:World) :
 Calls Tryz.prog 166 #[.string s,.string ⟨#[c]⟩] w fun e w'=>e = .returned (.int .i64 (Lib.countByte s.data.toList c))∧w'=w:=Any.strings_Count_one Tryz.CX s c w
end Go.Proofs
namespace Go.Proofs.YtfeoedkmndkbjaaGreatDoor
open Go Go.Sx
set_option maxRecDepth 100000
set_option maxHeartbeats 4000000
set_option linter.unusedVariables false
set_option linter.unusedSimpArgs false
def yZ (c:UInt8):Bool:=(decide (97≤c.toNat)&&decide (c.toNat≤122))||((decide (48≤c.toNat)&&decide (c.toNat≤57))||(c.toNat == 46||(c.toNat == 45||c.toNat == 95)))
def cK (s:List UInt8):Bool:=s.all yZ&&(decide (1≤s.length)&&decide (s.length≤14))
theorem mW {c:UInt8}:yZ c=true↔((97≤c.toNat∧c.toNat≤122)∨(48≤c.toNat∧c.toNat≤57)∨c.toNat=46∨c.toNat=45∨c.toNat=95):=by
 simp[yZ,Bool.or_eq_true,Bool.and_eq_true]
theorem tn {s:List UInt8} {i:Nat} (hi:i<s.length) (h : ¬ yZ s[i]=true):cK s=false:=by
 unfold cK
 have:s.all yZ=false:=by
  rw[List.all_eq_false]
  exact⟨_,List.getElem_mem hi,h⟩
 rw[this]
 rfl
theorem wT {s:List UInt8} {i:Nat} (hi:i<s.length) (h:(s.take i).all yZ=true) (hk:yZ s[i]=true):(s.take (i+1)).all yZ=true:=by
 rw[List.take_succ_eq_append_getElem hi,List.all_append,h]
 simp[hk]
theorem qf (s:List UInt8) (hs:s.length≤1000000):af Tryz.prog 119 [aC s] (fun w=>True) (fun v F=>v = .bool (cK s)):=by
 refine af.aF ab Tryz.func119 rfl (by decide) (n:=Tryz.f119.ntmps - 1) rfl rfl fun w0 av=>?_
 conv=>whnf
 refine aI.loop ab (ι:=Nat) ([3,4]++List.range' 7 33) (fun x=>x≤s.length∧(s.take x).all yZ=true)
  (fun x=>[(7,.v (.int .i64 (x:Int)))]) (fun _=>[]) (fun _=>⟨fun w=>True,[]⟩)
  (fun x=>s.length - x) 0 ⟨Nat.zero_le _,rfl⟩ ?_ rfl (aq.refl _) fun i hi=>?_
 · conv=>whnf
   repeat (first | exact aw.nil | refine aw.any ?_ | refine aw.cons ?_)
 obtain⟨hi,hall⟩:=hi
 conv=>whnf
 refine aH.split (fun hlt=>?_) (fun hlt=>?_)
 · conv=>whnf
   have hlt':i<s.length:=by
    have:(i:Int)<s.length:=by simpa [au,ew] using hlt
    omega
   refine aj.ah (ai.jk ab (t:=9) rfl rfl i rfl hlt' ?_)
   conv=>whnf
   generalize hc:s[i]=c
   repeat' (first
    | (rw[show mL (c.toNat:Int) 97=mL (c.toNat:Int) 97 from rfl];cases ht0:mL (c.toNat:Int) 97<;>conv=>whnf)
    | (rw[show yq (c.toNat:Int) 122=yq (c.toNat:Int) 122 from rfl];cases ht1:yq (c.toNat:Int) 122<;>conv=>whnf)
    | (rw[show mL (c.toNat:Int) 48=mL (c.toNat:Int) 48 from rfl];cases ht2:mL (c.toNat:Int) 48<;>conv=>whnf)
    | (rw[show yq (c.toNat:Int) 57=yq (c.toNat:Int) 57 from rfl];cases ht3:yq (c.toNat:Int) 57<;>conv=>whnf)
    | (rw[show iZ (c.toNat:Int) 46=iZ (c.toNat:Int) 46 from rfl];cases ht4:iZ (c.toNat:Int) 46<;>conv=>whnf)
    | (rw[show iZ (c.toNat:Int) 45=iZ (c.toNat:Int) 45 from rfl];cases ht5:iZ (c.toNat:Int) 45<;>conv=>whnf)
    | (rw[show iZ (c.toNat:Int) 95=iZ (c.toNat:Int) 95 from rfl];cases ht6:iZ (c.toNat:Int) 95<;>conv=>whnf)
    | (refine aa.of ?_;conv=>whnf)
    | (refine aH.yes rfl ?_;conv=>whnf)
    | (refine aH.no rfl ?_;conv=>whnf))
   all_goals first
    | (
     have hok:yZ s[i]=true:=(by
      rw[hc,mW]
      simp only[au,bP,ar,decide_eq_true_eq,decide_eq_false_iff_not,bne_iff_ne,ne_eq,bne_eq_false_iff_eq] at *
      omega)
     refine⟨i+1,⟨⟨hlt',wT hlt' hall hok⟩,by dsimp only;omega⟩,?_,?_,aq.refl _⟩
     · conv=>whnf
       refine⟨?_,rfl⟩
       repeat (first | exact aw.nil | refine aw.any ?_ | refine aw.cons ?_ | refine aw.eq (by rw[wrap_i64 (by omega)];rfl) ?_)
     · conv=>whnf
       exact trivial)
    | (
     have hok : ¬ yZ s[i]=true:=(by
      rw[hc,mW]
      simp only[au,bP,ar,decide_eq_true_eq,decide_eq_false_iff_not,bne_iff_ne,ne_eq,bne_eq_false_iff_eq] at *
      omega)
     exact⟨_,aq.refl _,by rw[tn hlt' hok]⟩)
    | (
     exfalso
     simp only[au,bP,ar,decide_eq_true_eq,decide_eq_false_iff_not,bne_iff_ne,ne_eq,bne_eq_false_iff_eq] at *
     omega)
 · conv=>whnf
   have hie:i=s.length:=by
    have : ¬ i<s.length:=by simpa [au,ew] using hlt
    omega
   subst hie
   repeat' (first
    | (refine aa.of ?_;conv=>whnf))
   refine⟨_,aq.refl _,?_⟩
   rw[List.take_length] at hall
   simp only[ew,bI,eU,cK,hall,Bool.true_and]
   congr 1
   rw[Bool.eq_iff_iff]
   simp
   try omega
theorem oJ (s:List UInt8) (hs:s.length≤1000000):af Tryz.prog 126 [aC s] (fun w=>True) (fun v F=>v = .bool (cK s)):=by
 refine af.aF ab Tryz.func126 rfl (by decide) (n:=Tryz.f126.ntmps - 1) rfl rfl fun w0 av=>?_
 conv=>whnf
 refine aI.loop ab (ι:=Nat) ([3,4]++List.range' 5 36) (fun x=>x≤s.length∧(s.take x).all yZ=true)
  (fun x=>[(3,.v (.int .i64 (x:Int)))]) (fun _=>[]) (fun _=>⟨fun w=>True,[]⟩)
  (fun x=>s.length - x) 0 ⟨Nat.zero_le _,rfl⟩ ?_ rfl (aq.refl _) fun i hi=>?_
 · conv=>whnf
   repeat (first | exact aw.nil | refine aw.any ?_ | refine aw.cons ?_)
 obtain⟨hi,hall⟩:=hi
 conv=>whnf
 refine aH.split (fun hlt=>?_) (fun hlt=>?_)
 · conv=>whnf
   have hlt':i<s.length:=by
    have:(i:Int)<s.length:=by simpa [au,ew] using hlt
    omega
   refine aj.ah (ai.jk ab (t:=9) rfl rfl i rfl hlt' ?_)
   conv=>whnf
   generalize hc:s[i]=c
   repeat' (first
    | (rw[show gG (c.toNat:Int) 97=gG (c.toNat:Int) 97 from rfl];cases ht0:gG (c.toNat:Int) 97<;>conv=>whnf)
    | (rw[show xH (c.toNat:Int) 122=xH (c.toNat:Int) 122 from rfl];cases ht1:xH (c.toNat:Int) 122<;>conv=>whnf)
    | (rw[show gG (c.toNat:Int) 48=gG (c.toNat:Int) 48 from rfl];cases ht2:gG (c.toNat:Int) 48<;>conv=>whnf)
    | (rw[show xH (c.toNat:Int) 57=xH (c.toNat:Int) 57 from rfl];cases ht3:xH (c.toNat:Int) 57<;>conv=>whnf)
    | (rw[show cN (c.toNat:Int) 46=cN (c.toNat:Int) 46 from rfl];cases ht4:cN (c.toNat:Int) 46<;>conv=>whnf)
    | (rw[show cN (c.toNat:Int) 45=cN (c.toNat:Int) 45 from rfl];cases ht5:cN (c.toNat:Int) 45<;>conv=>whnf)
    | (rw[show cN (c.toNat:Int) 95=cN (c.toNat:Int) 95 from rfl];cases ht6:cN (c.toNat:Int) 95<;>conv=>whnf)
    | (refine aa.of ?_;conv=>whnf)
    | (refine aH.yes rfl ?_;conv=>whnf)
    | (refine aH.no rfl ?_;conv=>whnf))
   all_goals first
    | (
     have hok:yZ s[i]=true:=(by
      rw[hc,mW]
      simp only[eU,bI,aD,decide_eq_true_eq,decide_eq_false_iff_not,beq_iff_eq,beq_eq_false_iff_ne,ne_eq] at *
      omega)
     refine⟨i+1,⟨⟨hlt',wT hlt' hall hok⟩,by dsimp only;omega⟩,?_,?_,aq.refl _⟩
     · conv=>whnf
       refine⟨?_,rfl⟩
       repeat (first | exact aw.nil | refine aw.any ?_ | refine aw.cons ?_ | refine aw.eq (by rw[wrap_i64 (by omega)];rfl) ?_)
     · conv=>whnf
       exact trivial)
    | (
     have hok : ¬ yZ s[i]=true:=(by
      rw[hc,mW]
      simp only[eU,bI,aD,decide_eq_true_eq,decide_eq_false_iff_not,beq_iff_eq,beq_eq_false_iff_ne,ne_eq] at *
      omega)
     exact⟨_,aq.refl _,by rw[tn hlt' hok]⟩)
    | (
     exfalso
     simp only[eU,bI,aD,decide_eq_true_eq,decide_eq_false_iff_not,beq_iff_eq,beq_eq_false_iff_ne,ne_eq] at *
     omega)
 · conv=>whnf
   have hie:i=s.length:=by
    have : ¬ i<s.length:=by simpa [au,ew] using hlt
    omega
   subst hie
   repeat' (first
    | (refine aa.of ?_;conv=>whnf))
   refine⟨_,aq.refl _,?_⟩
   rw[List.take_length] at hall
   simp only[ew,bI,eU,cK,hall,Bool.true_and]
   congr 1
   rw[Bool.eq_iff_iff]
   simp
   try omega
def tQ (s:List UInt8):Int:=match s.findIdx? (· == 47) with
 | some n=>(n:Int)
 | none=>-1
theorem l9 {P:Program} {f:FuncId} {fn:Func} (hfn:P.funcs[f]? = some fn) (hb:fn.body.isSome=true) (hnm:(fn.name == "runtime.NumGoroutine")=false) {vs:List Value} {v:Value}
 (h : ∀ w,Calls P f vs.toArray w fun e w'=>e = .returned v∧w'=w):af P f vs (fun w=>True) (fun u F=>u=v):=by
 unfold af
 refine⟨⟨fn,hfn,hb,hnm⟩,fun av w hav hpre=>(h w).mono ?_⟩
 rintro e w' ⟨rfl,rfl⟩
 exact⟨v,⟨fun _=>True,[]⟩,rfl,dZ.refl _ _,⟨by simp,by simp,.pure trivial⟩,rfl⟩
theorem kA : ∀ s:List UInt8,Go.Lib.indexByte s 47=tQ s
 | []=>rfl
 | x::s=>by
  have ih:=kA s
  unfold Go.Lib.indexByte
  rw[ih]
  unfold tQ
  rw[List.findIdx?_cons]
  by_cases h:(x == 47)=true
  · rw[if_pos h,if_pos h]
    rfl
  · rw[if_neg h,if_neg h]
    cases s.findIdx? (· == 47) with
    | none=>rfl
    | some n=>
     simp only[Option.map_some]
     have hn : ¬ (((n:Int) == -1)=true):=by simp
     rw[if_neg hn]
     rfl
theorem yf (s:List UInt8):af Tryz.prog 166 [aC s,aC [47]] (fun w=>True) (fun v F=>v = .int .i64 (s.count 47:Int)):=
 l9 Tryz.func166 (by decide) (by decide) fun w=>Tryz.strings_Count_one ⟨s.toArray⟩ 47 w
theorem index_spec (s:List UInt8):af Tryz.prog 167 [aC s,aC [47]] (fun w=>True) (fun v F=>v = .int .i64 (tQ s)):=by
 rw[← kA]
 exact l9 Tryz.func167 (by decide) (by decide) fun w=>Tryz.strings_Index_one ⟨s.toArray⟩ 47 w
def pre (s:List UInt8):Bool:=s.take 1 == [47]
theorem vD (s:List UInt8) (hs:s.length≤1000000):af Tryz.prog 164 [aC s,aC [47]] (fun w=>True) (fun v F=>v = .bool (pre s)):=by
 refine af.aF ab Tryz.func164 rfl (by decide) (n:=Tryz.f164.ntmps - 2) rfl rfl fun w0 av=>?_
 conv=>whnf
 repeat' (first
  | (refine aa.of ?_;conv=>whnf))
 refine aH.split (fun hlt=>?_) (fun hlt=>?_)
 · conv=>whnf
   have h1:1≤s.length:=by
    have:=hlt
    simp only[bI,ew,decide_eq_true_eq] at this
    simp at this
    omega
   refine aj.ah (ai.zr ab (t:=9) rfl rfl 1 rfl h1 ?_)
   conv=>whnf
   refine aj.ah (ai.fL (l:=s.take 1) (m:=[47]) ?_)
   conv=>whnf
   repeat' (first
    | (refine aa.of ?_;conv=>whnf))
   exact⟨_,aq.refl _,rfl⟩
 · conv=>whnf
   repeat' (first
    | (refine aa.of ?_;conv=>whnf))
   have h1:s = []:=by
    have:=hlt
    simp only[bI,ew,decide_eq_false_iff_not] at this
    simp at this
    exact List.eq_nil_of_length_eq_zero (by omega)
   subst h1
   exact⟨_,aq.refl _,rfl⟩
def Am (s:List UInt8):Value:=.tuple #[aC (if pre s then s.drop 1 else s),.bool (pre s)]
theorem BV (s:List UInt8) (hs:s.length≤1000000):af Tryz.prog 142 [aC s,aC [47]] (fun w=>True) (fun v F=>v=Am s):=by
 refine af.aF ab Tryz.func142 rfl (by decide) (n:=Tryz.f142.ntmps - 2) rfl rfl fun w0 av=>?_
 conv=>whnf
 refine ak.val (vD s hs) (fun w hw=>trivial) (fun v D hv=>?_)
 subst hv
 conv=>whnf
 generalize hp:pre s=b
 cases b
 · conv=>whnf
   refine⟨_,aq.refl _,?_⟩
   simp only[Am,hp]
   rfl
 · conv=>whnf
   have h1:1≤s.length:=by
    cases s with
    | nil=>cases hp
    | cons x s=>simp
   refine aj.ah (ai.y7 ab (t:=9) rfl rfl 1 rfl h1 ?_)
   conv=>whnf
   refine⟨_,aq.refl _,?_⟩
   simp only[Am,hp]
   rfl
theorem qL (s:List UInt8) (hs:s.length≤1000000):af Tryz.prog 115 [aC s,aC [47]] (fun w=>True) (fun v F=>v=Am s):=by
 refine af.aF ab Tryz.func115 rfl (by decide) (n:=Tryz.f115.ntmps - 2) rfl rfl fun w0 av=>?_
 conv=>whnf
 refine ak.val (BV s hs) (fun w hw=>trivial) (fun v D hv=>?_)
 subst hv
 unfold Am
 conv=>whnf
 exact⟨_,aq.refl _,rfl⟩
def splitOn:List UInt8→List (List UInt8)
 | []=>[[]]
 | c::r=>if c=47 then []::splitOn r else match splitOn r with
  | x::xs=>(c::x)::xs
  | []=>[[c]]
theorem jY (r:List UInt8):splitOn r≠[]:=by
 cases r with
 | nil=>simp[splitOn]
 | cons c r=>
  unfold splitOn
  split
  · simp
  · split<;>simp
theorem gp : ∀ r:List UInt8,(splitOn r).length=r.count 47+1
 | []=>rfl
 | c::r=>by
  have ih:=gp r
  unfold splitOn
  by_cases h:c=47
  · subst h
    rw[if_pos rfl,List.count_cons_self,List.length_cons,ih]
  · rw[if_neg h,List.count_cons_of_ne h]
    split
    · rename_i x xs hx
      rw[hx] at ih
      simpa using ih
    · rename_i hx
      exact absurd hx (jY r)
theorem ug {r:List UInt8} (h:r.count 47=0):splitOn r = [r]:=by
 induction r with
 | nil=>rfl
 | cons c r ih=>
  by_cases hc:c=47
  · subst hc
    rw[List.count_cons_self] at h
    omega
  · rw[List.count_cons_of_ne hc] at h
    unfold splitOn
    rw[if_neg hc,ih h]
theorem nu : ∀ {r:List UInt8},r.count 47≠0→∃ k:Nat,tQ r=(k:Int)∧k<r.length∧splitOn r=r.take k::splitOn (r.drop (k+1))∧r.count 47=(r.drop (k+1)).count 47+1
 | [],h=>absurd rfl h
 | c::r,h=>by
  by_cases hc:c=47
  · subst hc
    refine⟨0,rfl,by simp,?_,by simp⟩
    conv=>lhs;unfold splitOn
    simp
  · rw[List.count_cons_of_ne hc] at h
    obtain⟨k,h1,h2,h3,h4⟩:=nu h
    refine⟨k+1,?_,by simp;omega,?_,by rw[List.count_cons_of_ne hc];simpa using h4⟩
    · unfold tQ at h1 ⊢
      have hb:(c == 47)=false:=by simpa using hc
      simp only[List.findIdx?_cons,hb]
      cases hf:r.findIdx? (· == 47) with
      | none=>rw[hf] at h1;simp at h1
      | some n=>
       rw[hf] at h1
       simp only[Int.natCast_inj] at h1
       subst h1
       simp
    · conv=>lhs;unfold splitOn
      rw[if_neg hc,h3]
      rfl
def b_ (w:World) (h:Hd) (l:List (List UInt8)):Prop:=aB w h.a (l.map aC)
def DG (l:List (List UInt8)) (v:Value) (F:Fx):Prop:=∃ h:Hd,v=h.v l.length∧h.Ok l.length∧F=⟨fun w=>b_ w h l,[]⟩
theorem tw (d:List (List UInt8)) (x:List UInt8) (z:Value) (n:Nat) (h:d.length<n):laid (d.map aC++List.replicate (n - d.length) z) d.length [aC x]=(d ++ [x]).map aC++List.replicate (n - (d ++ [x]).length) z:=by
 obtain⟨k,hk⟩ : ∃ k,n - d.length=k+1:=⟨n - d.length - 1,by omega⟩
 have hk2:n - (d ++ [x]).length=k:=by simp;omega
 rw[hk,hk2]
 unfold laid
 have e:d.length=(d.map aC).length:=by simp
 rw[e,List.take_left,List.drop_append]
 simp[List.replicate_succ]
theorem sC (s p:List UInt8) (n:Int) (hs:s.length≤1000) (hp:p = [47]) (hn:n<0):af Tryz.prog 143 [aC s,aC p,.int .i64 0,.int .i64 n] (fun w=>True) (DG (splitOn s)):=by
 have hcnt:s.count 47≤s.length:=List.count_le_length
 refine af.aF ab Tryz.func143 rfl (by decide) (n:=Tryz.f143.ntmps - 4) rfl rfl fun w0 av=>?_
 conv=>whnf
 refine aH.no (by simp[aD];omega) ?_
 conv=>whnf
 refine aj.ah (ai.fL (l:=p) (m:=[]) ?_)
 conv=>whnf
 refine aH.no (by simp[hp]) ?_
 subst hp
 conv=>whnf
 refine aH.yes (by simp[au];omega) ?_
 conv=>whnf
 refine ak.val (yf s) (fun w hw=>trivial) (fun v D hv=>?_)
 subst hv
 conv=>whnf
 generalize hN:ite (IntKind.i64.wrap _<IntKind.i64.wrap _) _ _=N
 have hN:N=((s.count 47+1:Nat):Int):=by
  rw[← hN,ew,wrap_i64 (by omega),wrap_i64 (by omega)]
  split<;>omega
 subst hN
 refine aj.pJ ab (t:=51) rfl rfl rfl (s.count 47+1) rfl rfl (by omega) (by decide) rfl (by omega) (by simp;omega) fun b=>?_
 conv=>whnf
 generalize hN:IntKind.i64.wrap _=N
 have hN:N=((s.count 47:Nat):Int):=by
  rw[← hN,wrap_i64 (by omega)]
  omega
 subst hN
 refine aI.loop ab (ι:=List UInt8×List (List UInt8)) ([0,10,11]++List.range' 34 24) (fun x=>splitOn s=x.2++splitOn x.1∧x.1.length≤s.length∧x.2.length+x.1.count 47=s.count 47)
  (fun x=>[(0,.v (aC x.1)),(10,.v (.int .i64 (x.2.length:Int)))]) (fun _=>[])
  (fun x=>⟨fun w=>True,[] ++ [(b,Row.c (x.2.map aC++List.replicate (s.count 47+1 - x.2.length) (aC [])))] ++ []⟩)
  (fun x=>x.1.count 47) (s,[]) ⟨rfl,Nat.le_refl _,by simp⟩ ?_ rfl (aq.of_le ⟨by simp[aC],fun w hw=>trivial⟩) fun x hx=>?_
 · conv=>whnf
   repeat (first | exact aw.nil | refine aw.any ?_ | refine aw.cons ?_)
 obtain⟨r,d⟩:=x
 obtain⟨hsp,hrl,hct⟩:=hx
 dsimp only at hsp hrl hct ⊢
 conv=>whnf
 refine aH.split (fun hlt=>?_) (fun hlt=>?_)
 · conv=>whnf
   have hlt':d.length<s.count 47:=by
    have:=hlt
    simp only[au,decide_eq_true_eq] at this
    omega
   obtain⟨k,hk1,hk2,hk3,hk4⟩:=nu (r:=r) (by omega)
   refine ak.val (index_spec r) (fun w hw=>trivial) (fun v D hv=>?_)
   generalize hkk:tQ r=kk at hv hk1
   subst hv
   conv=>whnf
   refine aH.no (by simp[au,hk1]) ?_
   conv=>whnf
   subst hk1
   refine aj.ah (ai.zr ab (t:=9) rfl rfl k (by rw[wrap_i64 (by omega)];omega) (by omega) ?_)
   conv=>whnf
   refine aj.ah (ai.index ab (t:=51) rfl rfl rfl (by omega) (by omega) (fun h=>by cases h) fun ad had=>?_)
   cases had
   conv=>whnf
   refine a_.cE ab (t:=9) rfl (C:=d.map aC++List.replicate (s.count 47+1 - d.length) (aC [])) (k:=d.length) (r1:=[]) (r2:=[]) (by simp[Addr.add];intro h;subst h;rfl) rfl (by simp[Value.cells,aC,aO]) (by simp;omega) ?_
   conv=>whnf
   refine aj.ah (ai.y7 ab (t:=9) rfl rfl (k+1) (by rw[ew,wrap_i64 (by simp;omega)];simp) (by omega) ?_)
   conv=>whnf
   refine⟨(r.drop (k+1),d ++ [r.take k]),⟨⟨?_,by simp;omega,by simp;omega⟩,by dsimp only;omega⟩,?_,?_,?_⟩
   · dsimp only
     rw[hsp,hk3]
     simp
   · conv=>whnf
     refine⟨?_,rfl⟩
     repeat (first | exact aw.nil | refine aw.any ?_ | refine aw.cons ?_ | refine aw.eq (by rw[wrap_i64 (by omega)];rfl) ?_ | refine aw.eq (by rw[wrap_i64 (by omega)];simp) ?_)
   · conv=>whnf
     exact trivial
   · have hl:=tw d (r.take k) (aC []) (s.count 47+1) (by omega)
     refine aq.of_le ⟨?_,fun w hw=>hw⟩
     simp only[Value.cells,aC] at hl ⊢
     simp only[hl]
     exact List.Sublist.refl _
 · conv=>whnf
   have hde:d.length=s.count 47:=by
    have:=hlt
    simp only[au,decide_eq_false_iff_not] at this
    omega
   have hr0:r.count 47=0:=by omega
   rw[ug hr0] at hsp
   refine aj.ah (ai.index ab (t:=51) rfl rfl rfl (by omega) (by omega) (fun h=>by cases h) fun ad had=>?_)
   cases had
   conv=>whnf
   refine a_.cE ab (t:=9) rfl (C:=d.map aC++List.replicate (s.count 47+1 - d.length) (aC [])) (k:=d.length) (r1:=[]) (r2:=[]) (by simp[Addr.add];intro h;subst h;rfl) rfl (by simp[Value.cells,aC,aO]) (by simp;omega) ?_
   conv=>whnf
   refine aj.ah (ai.slice ab (t:=51) rfl rfl rfl (lo:=none) (hi:=some _) (mx:=none) (k1:=.i64) (k3:=.i64) 0 (d.length+1) (s.count 47+1) rfl (by show IntKind.i64.wrap ((d.length:Int)+1)=((d.length+1:Nat):Int);rw[wrap_i64 (by omega)];rfl) rfl (by omega) (by omega) (Nat.le_refl _) (by simp) ?_)
   conv=>whnf
   rw[sX]
   refine⟨⟨fun w=>b_ w ⟨some ⟨b,0,none⟩,s.count 47+1⟩ (splitOn s),[]⟩,(aq.lz).trans (aq.imp fun w h=>?_),⟨some ⟨b,0,none⟩,s.count 47+1⟩,?_,⟨fun h=>(by cases h),by rw[gp];exact Nat.le_refl _⟩,rfl⟩
   · have hl:=tw d r (aC []) (s.count 47+1) (by omega)
     have he:(d ++ [r]).map aC++List.replicate (s.count 47+1 - (d ++ [r]).length) (aC [])=(splitOn s).map aC:=by
      rw[hsp]
      simp[hde]
     rw[he] at hl
     have h2:=h.2.1
     simp only[Value.cells,aC] at hl h2
     rw[show([Value.string ⟨⟨r⟩⟩]:List Value)=(#[Value.string ⟨⟨r⟩⟩]:Array Value).toList from rfl] at hl
     rw[hl] at h2
     exact h2
   · have:(splitOn s).length=s.count 47+1:=gp s
     simp only[this,hde]
     rfl
theorem yl (s:List UInt8) (hs:s.length≤1000):af Tryz.prog 116 [aC s,aC [47]] (fun w=>True) (DG (splitOn s)):=by
 refine af.aF ab Tryz.func116 rfl (by decide) (n:=Tryz.f116.ntmps - 2) rfl rfl fun w0 av=>?_
 conv=>whnf
 refine ak.pure (sC s [47] (-1) hs rfl (by omega)) (fun w hw=>trivial) (fun v D hv=>?_)
 obtain⟨h,rfl,hh,rfl⟩:=hv
 conv=>whnf
 exact⟨_,aq.of_le ⟨by simp[Fx.and],fun w hw=>hw.2⟩,h,rfl,hh,rfl⟩
theorem B5 (s:List UInt8) (hs:s.length≤1000000):af Tryz.prog 118 [aC s] (fun w=>True) (fun v F=>v = .bool (!cK s)):=by
 refine af.aF ab Tryz.func118 rfl (by decide) (n:=Tryz.f118.ntmps - 1) rfl rfl fun w0 av=>?_
 conv=>whnf
 refine ak.val (qf s hs) (fun w hw=>trivial) (fun v D hv=>?_)
 subst hv
 conv=>whnf
 exact⟨_,aq.refl _,rfl⟩
theorem sh (h:Hd) (l:List (List UInt8)) (hh:h.Ok l.length) (hl:l.length≤1000000) (hx : ∀ s∈l,s.length≤1000000) :
 af Tryz.prog 144 [h.v l.length,.func (.func 118) #[] #[]] (fun w=>b_ w h l) (fun v F=>∃ j:Int,v = .int .i64 j∧decide (j≥0) = !l.all cK):=by
 refine af.aF ab Tryz.func144 rfl (by decide) (n:=Tryz.f144.ntmps - 2) rfl rfl fun w0 av=>?_
 conv=>whnf
 refine aI.loop ab (ι:=Nat) ([5]++List.range' 8 11) (fun x=>x≤l.length∧(l.take x).all cK=true)
  (fun x=>[(8,.v (.int .i64 (x:Int)))]) (fun _=>[]) (fun _=>⟨fun w=>b_ w h l,[]⟩)
  (fun x=>l.length - x) 0 ⟨Nat.zero_le _,rfl⟩ ?_ rfl (aq.refl _) fun i hi=>?_
 · conv=>whnf
   repeat (first | exact aw.nil | refine aw.any ?_ | refine aw.cons ?_)
 obtain⟨hi,hall⟩:=hi
 conv=>whnf
 refine aH.split (fun hlt=>?_) (fun hlt=>?_)
 · conv=>whnf
   have hlt':i<l.length:=by
    have:=hlt
    simp only[au,decide_eq_true_eq] at this
    omega
   refine aj.ah (ai.index ab (t:=51) rfl rfl rfl (by omega) (by omega) hh.nil fun ad had=>?_)
   conv=>whnf
   refine aj.ah (ai.load ab (t:=9) rfl rfl (ad:=ad) (k:=i) (L:=l.map aC) (v:=aC l[i]) (fun w hst=>had ▸ hst.now) (by simp) (by simp[hlt']) ?_)
   conv=>whnf
   refine ak.val (B5 l[i] (hx _ (List.getElem_mem hlt'))) (fun w hw=>trivial) (fun v D hv=>?_)
   generalize hvb:cK l[i]=vb at hv
   subst hv
   cases vb
   · conv=>whnf
     refine⟨_,aq.refl _,_,rfl,?_⟩
     have:l.all cK=false:=by
      rw[List.all_eq_false]
      exact⟨_,List.getElem_mem hlt',by rw[hvb];simp⟩
     rw[this]
     simp
   · conv=>whnf
     refine⟨i+1,⟨⟨hlt',?_⟩,by dsimp only;omega⟩,?_,?_,aq.refl _⟩
     · rw[List.take_succ_eq_append_getElem hlt',List.all_append,hall]
       simp[hvb]
     · conv=>whnf
       refine⟨?_,rfl⟩
       repeat (first | exact aw.nil | refine aw.any ?_ | refine aw.cons ?_ | refine aw.eq (by rw[wrap_i64 (by omega)];rfl) ?_)
     · conv=>whnf
       exact trivial
 · conv=>whnf
   have hie:i=l.length:=by
    have:=hlt
    simp only[au,decide_eq_false_iff_not] at this
    omega
   subst hie
   rw[List.take_length] at hall
   exact⟨_,aq.refl _,_,rfl,by rw[hall];rfl⟩
theorem nP (h:Hd) (l:List (List UInt8)) (hh:h.Ok l.length) (hl:l.length≤1000000) (hx : ∀ s∈l,s.length≤1000000) :
 af Tryz.prog 117 [h.v l.length,.func (.func 118) #[] #[]] (fun w=>b_ w h l) (fun v F=>v = .bool (!l.all cK)):=by
 refine af.aF ab Tryz.func117 rfl (by decide) (n:=Tryz.f117.ntmps - 2) rfl rfl fun w0 av=>?_
 conv=>whnf
 refine ak.val (sh h l hh hl hx) (fun w hw=>hw) (fun v D hv=>?_)
 obtain⟨j,rfl,hj⟩:=hv
 conv=>whnf
 refine⟨_,aq.refl _,?_⟩
 show Value.bool (gG j 0)=_
 rw[← hj,bI]
def aL (p:List UInt8):List (List UInt8)×Int:=
 if pre p=true∧p.length≤60 then (if p.drop 1 = [] then ([],0) else if (splitOn (p.drop 1)).all cK=true then (splitOn (p.drop 1),0) else ([],15)) else ([],15)
def DQ (q:List (List UInt8)×Int) (v:Value) (F:Fx):Prop:=∃ h:Hd,v = .tuple #[h.v q.1.length,.int .i64 q.2]∧h.Ok q.1.length∧F=⟨fun w=>b_ w h q.1,[]⟩
theorem iA {D:World→Prop} {q:List (List UInt8)×Int} {e:Int} (h:q=([],e)) : ∃ F',aq ⟨D,[]⟩ F'∧DQ q (.tuple #[.slice none 0 0,.int .i64 e]) F':=by
 subst h
 exact⟨⟨fun w=>b_ w Hd.nil [],[]⟩,aq.imp fun w _=>aB.xO,Hd.nil,rfl,Hd.dq,rfl⟩
theorem ma : ∀ (r:List UInt8),∀ s∈splitOn r,s.length≤r.length
 | [],s,h=>by simp[splitOn] at h;subst h;simp
 | c::r,s,h=>by
  have ih:=ma r
  unfold splitOn at h
  split at h
  · rcases List.mem_cons.1 h with e | h
    · subst e;simp
    · have:=ih s h
      simp
      omega
  · split at h
    · rename_i x xs hx
      rcases List.mem_cons.1 h with e | h
      · subst e
        have:=ih x (by rw[hx];exact List.mem_cons_self ..)
        simp
        omega
      · have:=ih s (by rw[hx];exact List.mem_cons_of_mem _ h)
        simp
        omega
    · rcases List.mem_cons.1 h with e | h
      · subst e;simp
      · cases h
theorem iw (p:List UInt8) (hp:p.length≤200):af Tryz.prog 66 [aC p] (fun w=>True) (DQ (aL p)):=by
 refine af.aF ab Tryz.func66 rfl (by decide) (n:=Tryz.f66.ntmps - 1) rfl rfl fun w0 av=>?_
 conv=>whnf
 refine ak.val (qL p (by omega)) (fun w hw=>trivial) (fun v D hv=>?_)
 unfold Am at hv
 generalize hpre:pre p=b at hv
 subst hv
 conv=>whnf
 cases b
 · conv=>whnf
   repeat' (first
    | (refine aa.of ?_;conv=>whnf))
   refine iA ?_
   unfold aL
   rw[if_neg (by rw[hpre];simp)]
 · conv=>whnf
   repeat' (first
    | (refine aa.of ?_;conv=>whnf))
   refine aH.split (fun hlt=>?_) (fun hlt=>?_)
   · conv=>whnf
     refine iA ?_
     unfold aL
     rw[if_neg]
     rintro⟨-,h2⟩
     have:=hlt
     have hsz:(ByteArray.mk ⟨p⟩).size=p.length:=rfl
     simp[bP,hsz] at this
     omega
   · conv=>whnf
     have hle:p.length≤60:=by
      have:=hlt
      have hsz:(ByteArray.mk ⟨p⟩).size=p.length:=rfl
      simp[bP,hsz] at this
      omega
     have hR:aL p=(if p.drop 1 = [] then ([],0) else if (splitOn (p.drop 1)).all cK=true then (splitOn (p.drop 1),0) else ([],15)):=by
      unfold aL
      rw[if_pos ⟨hpre,hle⟩]
     refine aj.ah (ai.fL (l:=p.drop 1) (m:=[]) ?_)
     conv=>whnf
     refine aH.split (fun h0=>?_) (fun h0=>?_)
     · conv=>whnf
       refine iA ?_
       rw[hR,if_pos (by simpa using h0)]
     · conv=>whnf
       have h0':p.drop 1≠[]:=by simpa using h0
       have hdl:(p.drop 1).length≤200:=by simp;omega
       refine ak.pure (yl (p.drop 1) (by omega)) (fun w hw=>trivial) (fun v D hv=>?_)
       obtain⟨h,rfl,hh,rfl⟩:=hv
       conv=>whnf
       have hbig:(splitOn (p.drop 1)).length≤1000000:=by
        rw[gp]
        have:(p.drop 1).count 47≤(p.drop 1).length:=List.count_le_length
        omega
       refine ak.val (nP h (splitOn (p.drop 1)) hh hbig (fun s hs=>by have:=ma _ s hs;omega)) (fun w hw=>hw.2) (fun v D hv=>?_)
       generalize hall:(splitOn (p.drop 1)).all cK=b at hv
       subst hv
       cases b
       · conv=>whnf
         refine iA ?_
         rw[hR,if_neg h0',if_neg (by rw[hall];simp)]
       · conv=>whnf
         refine⟨⟨fun w=>b_ w h (splitOn (p.drop 1)),[]⟩,aq.of_le ⟨by simp[Fx.and],fun w hw=>hw.2⟩,h,?_,?_,?_⟩
         · rw[hR,if_neg h0',if_pos hall]
         · rw[hR,if_neg h0',if_pos hall]
           exact hh
         · rw[hR,if_neg h0',if_pos hall]
def step (m:List (List UInt8)) (c:UInt8):List (List UInt8):=if c=47 then m ++ [[]] else m.dropLast ++ [(m.getLastD []) ++ [c]]
def glue (x:List UInt8):List (List UInt8)→List (List UInt8)
 | []=>[x]
 | y::ys=>(x++y)::ys
theorem Aj (a:List (List UInt8)) (x:List UInt8) (c:UInt8):step (a ++ [x]) c=if c=47 then (a ++ [x]) ++ [[]] else a ++ [x ++ [c]]:=by
 unfold step
 split
 · rfl
 · simp
theorem mA : ∀ (r:List UInt8) (a:List (List UInt8)) (x:List UInt8),r.foldl step (a ++ [x])=a++glue x (splitOn r)
 | [],a,x=>by simp[splitOn,glue]
 | c::r,a,x=>by
  rw[List.foldl_cons,Aj]
  by_cases hc:c=47
  · rw[if_pos hc,mA r]
    conv=>rhs;unfold splitOn
    rw[if_pos hc]
    have:=jY r
    cases hs:splitOn r with
    | nil=>exact absurd hs this
    | cons y ys=>simp[glue]
  · rw[if_neg hc,mA r]
    conv=>rhs;unfold splitOn
    rw[if_neg hc]
    have:=jY r
    cases hs:splitOn r with
    | nil=>exact absurd hs this
    | cons y ys=>simp[glue]
theorem v7 (r:List UInt8):r.foldl step [[]]=splitOn r:=by
 have:=mA r [] []
 simp only[List.nil_append] at this
 rw[this]
 have h:=jY r
 cases hs:splitOn r with
 | nil=>exact absurd hs h
 | cons y ys=>simp[glue]
theorem lA {m:List (List UInt8)} (hm:m≠[]):m[m.length - 1]? = some (m.getLastD []):=by
 have h:=List.getLast?_eq_some_getLast hm
 rw[← List.getLast?_eq_getElem?,List.getLastD_eq_getLast?,h]
 rfl
theorem Own.EA {n:Nat} {b c:Nat} {C:List Value} {m:List (List UInt8)} (h:Own 1 n (some ⟨b,0,none⟩) c C (m.map aC)) (hn:n=m.length) (hm:m≠[]) (x:List UInt8) :
 Own 1 n (some ⟨b,0,none⟩) c (laid C (n - 1) [aC x]) ((m.dropLast ++ [x]).map aC):=by
 have hl:0<m.length:=List.length_pos_iff.2 hm
 rcases h.alt with⟨h1,_⟩ | ⟨b',h1,h2,h3⟩
 · cases h1
 · cases h1
   have hfit:=h.fit
   have hCl:C.length=c:=by rw[h2,Nat.mul_one]
   refine⟨by simp;omega,h.fit,.inr ⟨b,rfl,by rw[wo (by simp;omega),h2],?_⟩⟩
   rw[Nat.mul_one] at h3 ⊢
   have hp:(C.take (n - 1)).length=n - 1:=by simp;omega
   have e1:C.take (n - 1)=m.dropLast.map aC:=by
    have h4:(C.take n).take (n - 1)=(m.map aC).take (n - 1):=by rw[h3]
    rw[List.take_take,Nat.min_eq_left (by omega)] at h4
    rw[h4,← List.map_take,List.dropLast_eq_take,hn]
   unfold laid
   rw[List.append_assoc,List.take_append,List.take_of_length_le (by omega),hp,show n - (n - 1)=1 from by omega,e1]
   simp
theorem qa {sz n b c:Nat} {C L:List Value} (h:Own sz n (some ⟨b,0,none⟩) c C L):C.take (n*sz)=L:=by
 rcases h.alt with⟨h1,_⟩ | ⟨b',h1,_,h3⟩
 · cases h1
 · exact h3
theorem ja (p:List UInt8) (hp:p.length≤200):af Tryz.prog 76 [aC p] (fun w=>True) (DQ (aL p)):=by
 have hsz:(ByteArray.mk ⟨p⟩).size=p.length:=rfl
 refine af.aF ab Tryz.func76 rfl (by decide) (n:=Tryz.f76.ntmps - 1) rfl rfl fun w0 av=>?_
 conv=>whnf
 refine aj.ah (ai.fL (l:=p) (m:=[47]) ?_)
 conv=>whnf
 refine aH.split (fun h0=>?_) (fun h0=>?_)
 · conv=>whnf
   have h0:p = [47]:=by simpa using h0
   refine iA ?_
   subst h0
   rfl
 conv=>whnf
 have h0:p≠[47]:=by simpa using h0
 repeat' (first
  | (refine aa.of ?_;conv=>whnf))
 generalize hc:(mL _ 2||yq _ 60)=b
 have hc:(decide (p.length<2)||decide (60<p.length))=b:=by
  rw[← hc]
  simp only[au,bP,hsz]
  congr 1<;>rw[decide_eq_decide]<;>omega
 cases b
 rotate_left
 · conv=>whnf
   repeat' (first
    | (refine aa.of ?_;conv=>whnf)
    | (refine aH.yes rfl ?_;conv=>whnf))
   refine iA ?_
   unfold aL
   by_cases h:pre p=true∧p.length≤60
   · exfalso
     have h60 : ¬ 60<p.length:=by omega
     simp[h60] at hc
     obtain⟨h1,h2⟩:=h
     unfold pre at h1
     cases p with
     | nil=>cases h1
     | cons x p=>
      cases p with
      | nil=>exact h0 (by simpa using h1)
      | cons y p=>simp at hc;omega
   · rw[if_neg h]
 have h2:2≤p.length:=by
  have : ¬ p.length<2:=by
   intro h
   simp[h] at hc
  omega
 have h60:p.length≤60:=by
  have : ¬ 60<p.length:=by
   intro h
   simp[h] at hc
  omega
 conv=>whnf
 refine aj.ah (ai.jk ab (t:=9) rfl rfl 0 rfl (by omega) ?_)
 conv=>whnf
 repeat' (first
  | (refine aa.of ?_;conv=>whnf))
 refine aH.split (fun h47=>?_) (fun h47=>?_)
 · conv=>whnf
   refine iA ?_
   unfold aL
   rw[if_neg]
   rintro⟨h1,-⟩
   unfold pre at h1
   cases p with
   | nil=>simp at h2
   | cons x p=>
    simp at h1
    subst h1
    simp[ar] at h47
 conv=>whnf
 have hpre:pre p=true:=by
  unfold pre
  cases p with
  | nil=>simp at h2
  | cons x p=>
   have:x=47:=by
    have h:=h47
    simp[ar] at h
    apply UInt8.toNat_inj.1
    have e:(47:UInt8).toNat=47:=rfl
    rw[e]
    omega
   subst this
   simp
 have hne:p.drop 1≠[]:=by
  intro h
  have:=congrArg List.length h
  simp at this
  omega
 have hR:aL p=(if (splitOn (p.drop 1)).all cK=true then (splitOn (p.drop 1),0) else ([],15)):=by
  unfold aL
  rw[if_pos ⟨hpre,h60⟩,if_neg hne]
 refine aj.build ab (t:=51) rfl rfl rfl [aC []] rfl rfl (by simp[Value.cells,aC]) (by decide) fun b0=>?_
 conv=>whnf
 refine aI.loop ab (ι:=Nat×List (List UInt8)×Option Addr×Nat×List Value) ([4,5]++List.range' 23 26)
  (fun x=>(1≤x.1∧x.1≤p.length)∧x.2.1≠[]∧x.2.1.length≤x.1∧(p.drop x.1).foldl step x.2.1=splitOn (p.drop 1)∧(∀ s∈x.2.1,s.length≤x.1)∧Own 1 x.2.1.length x.2.2.1 x.2.2.2.1 x.2.2.2.2 (x.2.1.map aC))
  (fun x=>[(4,.v (.slice x.2.2.1 x.2.1.length x.2.2.2.1)),(5,.v (.int .i64 (x.1:Int)))]) (fun _=>[])
  (fun x=>⟨fun w=>True,aR x.2.2.1 x.2.2.2.2⟩)
  (fun x=>p.length - x.1) (1,[[]],some ⟨b0,0,none⟩,1,[aC []]) ⟨⟨Nat.le_refl _,by omega⟩,by simp,Nat.le_refl _,v7 _,by simp,Own.full rfl⟩ ?_ rfl (aq.of_le ⟨by simp[aR,Value.cells,aC],fun w hw=>trivial⟩) fun x hx=>?_
 · conv=>whnf
   repeat (first | exact aw.nil | refine aw.any ?_ | refine aw.cons ?_)
 obtain⟨i,m,a,c,C⟩:=x
 obtain⟨⟨hi1,hi⟩,hm,hml,hfold,hmx,hO⟩:=hx
 dsimp only at hi1 hi hm hml hfold hmx hO ⊢
 have hmpos:0<m.length:=List.length_pos_iff.2 hm
 obtain⟨b,rfl⟩:=ij hO hmpos
 conv=>whnf
 refine aH.split (fun hlt=>?_) (fun hlt=>?_)
 · conv=>whnf
   have hlt':i<p.length:=by
    have h:=hlt
    simp[au,hsz] at h
    omega
   have hdrop:p.drop i=p[i]::p.drop (i+1):=List.drop_eq_getElem_cons hlt'
   rw[hdrop,List.foldl_cons] at hfold
   refine aj.ah (ai.jk ab (t:=9) rfl rfl i rfl hlt' ?_)
   conv=>whnf
   generalize hci:p[i]=ci at hfold
   refine aH.split (fun hc47=>?_) (fun hc47=>?_)
   · have hc47':ci=47:=by
      have h:=hc47
      simp[aD] at h
      apply UInt8.toNat_inj.1
      have e:(47:UInt8).toNat=47:=rfl
      rw[e]
      omega
     conv=>whnf
     refine aj.build ab (t:=51) rfl rfl rfl [aC []] rfl rfl (by simp[Value.cells,aC]) (by decide) fun b1=>?_
     conv=>whnf
     refine aj.c_ (F':=⟨fun w=>True,[]++aR (some ⟨b,0,none⟩) C ++ [(b1,Row.c [aC []])]⟩) (aq.of_le ⟨by simp[aR,Value.cells,aC],fun w hw=>hw⟩) ?_
     refine aj.append ab (t:=51) (xt:=51) rfl rfl rfl rfl rfl rfl (r1:=[]) (r2:=[(b1,Row.c [aC []])]) (M:=[aC []]) hO (bp.row (by simp)) rfl (by simp[aC,aO]) (by omega) (by simp;omega) fun a' c' C' hO'=>?_
     conv=>whnf
     refine⟨(i+1,m ++ [[]],a',c',C'),⟨⟨⟨by omega,hlt'⟩,by simp,by simp;omega,?_,?_,by simpa using hO'⟩,by dsimp only;omega⟩,?_,?_,?_⟩
     · rw[← hfold,hc47']
       rfl
     · intro s hs
       rcases List.mem_append.1 hs with hs | hs
       · have:=hmx s hs
         omega
       · have:s = []:=by simpa using hs
         subst this
         simp
     · conv=>whnf
       refine⟨?_,rfl⟩
       repeat (first | exact aw.nil | refine aw.any ?_ | refine aw.cons ?_ | refine aw.eq (by rw[wrap_i64 (by omega)];rfl) ?_ | refine aw.eq (by simp) ?_)
     · conv=>whnf
       exact trivial
     · refine aq.of_le ⟨by simp,fun w hw=>trivial⟩
   · have hc47':ci≠47:=by
      intro h
      subst h
      simp[aD] at hc47
     have hw:IntKind.i64.wrap ((m.length:Int) - 1)=((m.length - 1:Nat):Int):=by
      rw[wrap_i64 (by omega)]
      omega
     have hlast:(m.getLastD []).length≤i:=by
      refine hmx _ ?_
      exact List.mem_of_getElem? (lA hm)
     refine aI.draw ab mixed rfl rfl ?_
     conv=>whnf
     repeat' (first
      | (refine And.intro ?_ ?_<;>conv=>whnf)
      | (refine ax.same rfl ?_;conv=>whnf)
      | (refine ax.row rfl ?_;conv=>whnf)
      | (refine ax.call rfl ?_;conv=>whnf)
      | (refine bG.of ?_;conv=>whnf)
      | (refine aa.of ?_;conv=>whnf)
      | (refine ai.index ab (t:=51) rfl rfl rfl (by rw[hw];omega) (by rw[hw];omega) (fun h=>by cases h) fun ad had=>?_;cases had;conv=>whnf)
      | (refine ai.load ab (t:=9) rfl rfl (ad:=⟨b,0,none⟩) (k:=m.length - 1) (L:=m.map aC) (v:=aC (m.getLastD [])) (((bp.row (by simp[aR])).take (m.length*1)).eq (qa hO)) (by rw[hw];simp) (by rw[List.getElem?_map,lA hm];rfl) ?_;conv=>whnf)
      | (refine ai.DH ab (t:=9) rfl rfl i (i+1) rfl (by rw[wrap_i64 (by omega)];rfl) (by omega) hlt' ?_;conv=>whnf)
      | (refine ai.oz (l:=m.getLastD []) (m:=(p.drop i).take (i+1 - i)) (by have htl:((p.drop i).take (i+1 - i)).length≤i+1 - i:=List.length_take_le _ _;omega) ?_;conv=>whnf)
      | (refine a_.cE ab (t:=9) rfl (C:=C) (k:=m.length - 1) (r1:=[]) (r2:=[]) (by rw[hw];simp[Addr.add];intro h;omega) rfl (by simp[Value.cells,aC,aO]) (by have:=hO.fit;have:=qa hO;have:=congrArg List.length this;simp at this ⊢;omega) ?_;conv=>whnf)
      | (refine ax.mk ?_ ?_;(focus (first | exact aq.refl _ | exact aq.left _ _ | exact aq.of_le ⟨List.sublist_append_left _ _,fun w h=>h⟩ | exact aq.of_le ⟨List.Sublist.refl _,fun w h=>h.1⟩));conv=>whnf))
     have htk:(p.drop i).take (i+1 - i) = [ci]:=by
      rw[hdrop,show i+1 - i=1 from by omega,hci]
      rfl
     have hstep:step m ci=m.dropLast ++ [m.getLastD [] ++ [ci]]:=by
      unfold step
      rw[if_neg hc47']
     have hlen:(m.dropLast ++ [m.getLastD [] ++ [ci]]).length=m.length:=by
      simp
      omega
     refine⟨(i+1,m.dropLast ++ [m.getLastD [] ++ [ci]],some ⟨b,0,none⟩,c,laid C (m.length - 1) [aC (m.getLastD [] ++ [ci])]),⟨⟨⟨by omega,hlt'⟩,by simp,by rw[hlen];omega,?_,?_,?_⟩,by dsimp only;omega⟩,?_,?_,?_⟩
     · dsimp only
       rw[← hfold,hstep]
     · intro s hs
       rcases List.mem_append.1 hs with hs | hs
       · have:=hmx s (List.dropLast_subset _ hs)
         dsimp only
         omega
       · have:s=m.getLastD [] ++ [ci]:=List.mem_singleton.1 hs
         subst this
         show(m.getLastD [] ++ [ci]).length≤i+1
         rw[List.length_append]
         have : [ci].length=1:=rfl
         omega
     · dsimp only
       rw[hlen]
       exact Own.EA hO rfl hm _
     · conv=>whnf
       refine⟨?_,rfl⟩
       repeat (first | exact aw.nil | refine aw.any ?_ | refine aw.cons ?_ | refine aw.eq (by rw[wrap_i64 (by omega)];rfl) ?_ | refine aw.eq (by rw[hlen]) ?_)
     · conv=>whnf
       exact trivial
     · refine aq.of_le ⟨?_,fun w hw=>trivial⟩
       rw[htk]
       exact List.Sublist.refl _
 · conv=>whnf
   have hie:i=p.length:=by
    have h:=hlt
    simp[au,hsz] at h
    omega
   have hfin:m=splitOn (p.drop 1):=by
    rw[← hfold,hie]
    simp
   have hm1:m.length≤200:=by omega
   refine aI.loop ab (ι:=Nat) ([6]++List.range' 49 12) (fun x=>x≤m.length∧(m.take x).all cK=true)
    (fun x=>[(6,.v (.int .i64 (x:Int)))]) (fun _=>[]) (fun x=>⟨fun w=>True,aR (some ⟨b,0,none⟩) C⟩)
    (fun x=>m.length - x) 0 ⟨Nat.zero_le _,rfl⟩ ?_ rfl (aq.refl _) fun j hj=>?_
   · conv=>whnf
     repeat (first | exact aw.nil | refine aw.any ?_ | refine aw.cons ?_)
   obtain⟨hj,hall⟩:=hj
   conv=>whnf
   refine aH.split (fun hlt2=>?_) (fun hlt2=>?_)
   · conv=>whnf
     have hlt2':j<m.length:=by
      have h:=hlt2
      simp[au] at h
      omega
     refine aj.ah (ai.index ab (t:=51) rfl rfl rfl (by omega) (by omega) (fun h=>by cases h) fun ad had=>?_)
     cases had
     conv=>whnf
     refine aj.ah (ai.load ab (t:=9) rfl rfl (ad:=⟨b,0,none⟩) (k:=j) (L:=m.map aC) (v:=aC m[j]) (((bp.row (by simp[aR])).take (m.length*1)).eq (qa hO)) (by simp) (by simp[hlt2']) ?_)
     conv=>whnf
     refine ak.val (oJ m[j] (by have:=hmx _ (List.getElem_mem hlt2');omega)) (fun w hw=>trivial) (fun v D hv=>?_)
     generalize hvb:cK m[j]=vb at hv
     subst hv
     conv=>whnf
     cases vb
     · conv=>whnf
       repeat' (first
        | (refine aH.yes rfl ?_;conv=>whnf))
       refine⟨⟨fun w=>b_ w Hd.nil [],[]⟩,(aq.of_le ⟨List.nil_sublist _,fun w hw=>trivial⟩:aq _ ⟨fun w=>True,[]⟩).trans (aq.imp fun w _=>aB.xO),?_⟩
       have:aL p=([],15):=by
        rw[hR,if_neg]
        intro h
        rw[← hfin,List.all_eq_true] at h
        have:=h _ (List.getElem_mem hlt2')
        rw[hvb] at this
        cases this
       rw[this]
       exact⟨Hd.nil,rfl,Hd.dq,rfl⟩
     · conv=>whnf
       repeat' (first
        | (refine aH.no rfl ?_;conv=>whnf))
       refine⟨j+1,⟨⟨hlt2',?_⟩,by dsimp only;omega⟩,?_,?_,aq.refl _⟩
       · rw[List.take_succ_eq_append_getElem hlt2',List.all_append,hall]
         simp[hvb]
       · conv=>whnf
         refine⟨?_,rfl⟩
         repeat (first | exact aw.nil | refine aw.any ?_ | refine aw.cons ?_ | refine aw.eq (by rw[wrap_i64 (by omega)];rfl) ?_)
       · conv=>whnf
         exact trivial
   · conv=>whnf
     have hje:j=m.length:=by
      have h:=hlt2
      simp[au] at h
      omega
     subst hje
     rw[List.take_length] at hall
     have hS:aL p=(m,0):=by
      rw[hR,if_pos (by rw[← hfin];exact hall),← hfin]
     rw[hS]
     exact⟨_,(Own.gives hO).trans (aq.imp fun w h=>h.2),⟨some ⟨b,0,none⟩,c⟩,rfl,⟨fun h=>(by cases h),hO.fit⟩,rfl⟩
theorem eK (p:List UInt8) (hp:p.length≤200):(aL p).1.length≤1000000:=by
 unfold aL
 split
 · split
   · simp
   · split
     · simp only[gp]
       have h1:(p.drop 1).count 47≤(p.drop 1).length:=List.count_le_length
       have h2:(p.drop 1).length≤200:=by simp;omega
       omega
     · simp
 · simp
abbrev En:=List UInt8×Nat
def gQ (e:En):List Value:=[aC e.1,aE e.2]
theorem D6 {α β:Type} {g:α→β} {l:List α} {a b:β} (h:l.map g = [a,b]) : ∃ x y,l = [x,y]∧g x=a∧g y=b:=by
 match l,h with
 | [x,y],h=>
  simp at h
  exact⟨x,y,rfl,h.1,h.2⟩
theorem D7 (x y:En) (w:World):(Op.equalIn 10000 132 (.agg ⟨gQ x⟩) (.agg ⟨gQ y⟩)).run Tryz.prog w = .ok (decide (x=y)) w:=by
 have hS:Tryz.prog.underlying 132=some (.struct (Tryz.prog.fieldsOf 132)):=by kernel_rfl
 have hp:Tryz.prog.stoodInHeld 132=false:=by kernel_rfl
 have hf:(Tryz.prog.fieldsOf 132).toList.map DZ = [("Name",9,0),("Node",3,1)]:=by kernel_rfl
 have h3:Tryz.prog.underlying 3=some (.int .i64):=by kernel_rfl
 have h9:Tryz.prog.underlying 9=some .string:=by kernel_rfl
 obtain⟨p,q,hl,hx,hy⟩ : ∃ p q,(Tryz.prog.fieldsOf 132).toList = [p,q]∧DZ p=("Name",9,0)∧DZ q=("Node",3,1):=by
  exact D6 hf
 simp only[DZ,Prod.mk.injEq] at hx hy
 obtain⟨hx1,hx2,hx3⟩:=hx
 obtain⟨hy1,hy2,hy3⟩:=hy
 rw[show(10000:Nat)=9999+1 from rfl,run_equalIn_struct w 9999 132 _ _ hS hp,hl]
 simp only[Op.eqFields,hx1,hx2,hx3,hy1,hy2,hy3]
 have hq:(Op.equalIn 9999 3 (aE x.2) (aE y.2)).run Tryz.prog w = .ok (decide (x.2=y.2)) w:=by
  have h:=run_equalIn_int (P:=Tryz.prog) w 9998 3 .i64 .i64 (x.2:Int) (y.2:Int) h3
  have e:((x.2:Int) == (y.2:Int))=decide (x.2=y.2):=by
   rw[Bool.eq_iff_iff]
   simp only[beq_iff_eq,decide_eq_true_eq]
   omega
  rw[e] at h
  exact h
 have hs:(Op.equalIn 9999 9 (aC x.1) (aC y.1)).run Tryz.prog w = .ok (decide (x.1=y.1)) w:=by
  have h:=run_equalIn_string (P:=Tryz.prog) w 9998 9 ⟨⟨x.1⟩⟩ ⟨⟨y.1⟩⟩ h9
  rw[toList_mk,toList_mk] at h
  have e:(x.1 == y.1)=decide (x.1=y.1):=by
   rw[Bool.eq_iff_iff]
   simp
  rw[e] at h
  exact h
 rw[if_pos (by decide),ag (ep h9 rfl (v:=aC x.1) rfl w),ag (ep h9 rfl (v:=aC y.1) rfl w),ag hs]
 have hxy:decide (x=y)=(decide (x.1=y.1)&&decide (x.2=y.2)):=by
  rw[Bool.eq_iff_iff]
  simp[Prod.ext_iff]
 rw[hxy]
 cases decide (x.1=y.1) with
 | false=>rfl
 | true=>
  simp only[Bool.not_true,Bool.false_eq_true,if_false,Bool.true_and]
  rw[if_pos (by decide),ag (ep h3 rfl (v:=aE x.2) rfl w),ag (ep h3 rfl (v:=aE y.2) rfl w),ag hq]
  cases decide (x.2=y.2)<;>rfl
section
variable {w0:World} {R:Nat→Nat→Prop} {av:Nat→Prop} {bs:List (Nat×Nat)} {cs:List (List Value)} {F:Fx}
theorem ai.EF {x y:Operand} {a b:En} {K:Value→Prop} (h:K (.bool (!decide (a=b)))) :
 ai Tryz.prog w0 R av (do eqGuard .neq 132 x y (.agg ⟨gQ a⟩) (.agg ⟨gQ b⟩);binOp .neq 132 (.agg ⟨gQ a⟩) (.agg ⟨gQ b⟩)) bs cs F K:=by
 refine(aQ _ _ _ _).2 ⟨_,fun w _=>?_,h⟩
 have hm:Tryz.prog.eqGuardType Tryz.prog.depth 132=false:=by kernel_rfl
 rw[ag (run_eqGuard_agg w .neq 132 x y _ _ hm),run_neq_struct,D7]
 rfl
end
def fV (c:List UInt8) (o:Nat):Nat→Nat
 | 0=>0
 | m+1=>if aJ c o=0 then 0 else fV c (o+1) m+1
theorem j_ (c:List UInt8) : ∀ (m o:Nat),fV c o m≤m
 | 0,_=>Nat.le_refl _
 | m+1,o=>by
  unfold fV
  split
  · omega
  · have:=j_ c m (o+1)
    omega
theorem ny (c:List UInt8) : ∀ (m o k:Nat),k≤m→(∀ j,j<k→aJ c (o+j)≠0)→(k=m∨aJ c (o+k)=0)→fV c o m=k
 | 0,o,k,h1,_,_=>by
  have:k=0:=by omega
  subst this
  rfl
 | m+1,o,0,h1,h2,h3=>by
  rcases h3 with h3 | h3
  · omega
  · have h3:aJ c o=0:=h3
    unfold fV
    rw[if_pos h3]
 | m+1,o,k+1,h1,h2,h3=>by
  have h20:aJ c o≠0:=h2 0 (by omega)
  unfold fV
  rw[if_neg h20,ny c m (o+1) k (by omega) (fun j hj=>by have:=h2 (j+1) (by omega);rwa [show o+1+j=o+(j+1) by omega]) (by
   rcases h3 with h3 | h3
   · exact .inl (by omega)
   · exact .inr (by rwa [show o+1+k=o+(k+1) by omega]))]
def fZ (c:List UInt8) (i:Nat):En:=(cut c (16*i) (fV c (16*i) 14),aJ c (16*i+14))
structure ua (c:List UInt8) (i:Nat):Prop where
 tail : ∀ k,k<14→fV c (16*i) 14≤k→aJ c (16*i+k)=0
 pad:aJ c (16*i+15)=0
 name:fZ c i=([],0)∨(cK (fZ c i).1=true∧(fZ c i).2≠0)
 only:(fZ c i).1 = []∨∀ k,k<i→(fZ c k).1≠(fZ c i).1
def eA (c:List UInt8) (n:Nat):List En:=(List.range n).map (fZ c)
def bV (l:List En):List Value:=l.flatMap gQ
theorem qA (c:List UInt8) (n:Nat):eA c (n+1)=eA c n ++ [fZ c n]:=by simp[eA,List.range_succ]
theorem ox (l:List En) (e:En):bV (l ++ [e])=bV l++gQ e:=by simp[bV]
theorem jC (l:List En):(bV l).length=l.length*2:=by
 induction l with
 | nil=>rfl
 | cons e l ih=>simp[bV,gQ] at ih ⊢;omega
theorem dz : ∀ {l:List En} {i:Nat} (h:i<l.length),(bV l)[2*i]? = some (aC l[i].1)∧(bV l)[2*i+1]? = some (aE l[i].2)
 | [],i,h=>by simp at h
 | e::l,0,h=>⟨rfl,rfl⟩
 | e::l,i+1,h=>by
  have:=dz (l:=l) (i:=i) (by simpa using h)
  have e1:bV (e::l)=aC e.1::aE e.2::bV l:=rfl
  rw[e1,show 2*(i+1)=2*i+1+1 by omega]
  simpa using this
def Ds (l:List En) (ok:Bool) (v:Value) (F:Fx):Prop:=∃ h:Hd,v = .tuple #[h.v l.length,.bool ok]∧h.Ok l.length∧F=⟨fun w=>aB w h.a (bV l),[]⟩
def BY (c:List UInt8):Prop:=∀ i,i<8→ua c i
noncomputable instance (c:List UInt8):Decidable (BY c):=Classical.propDecidable _
noncomputable def cX (c:List UInt8):Bool:=decide (BY c)
noncomputable def eT (c:List UInt8):List En:=if cX c then eA c 8 else []
def ov (l:List En) (ok:Bool) (v:Value) (F:Fx):Prop:=∃ a cap C,v = .tuple #[.slice a l.length cap,.bool ok]∧Own 2 l.length a cap C (bV l)∧F=⟨fun _=>True,aR a C⟩
theorem ec {c:List UInt8}:cX c=true↔∀ i,i<8→ua c i:=by
 unfold cX
 exact decide_eq_true_iff (p:=BY c)
theorem Ay {c:List UInt8} {D:World→Prop} {rs:List (Nat×Row)} {i:Nat} (hi:i<8) (h : ¬ ua c i) : ∃ F',aq ⟨D,rs⟩ F'∧ov (eT c) (cX c) (.tuple #[.slice none 0 0,.bool false]) F':=by
 have h1:cX c=false:=by
  rw[Bool.eq_false_iff]
  exact fun h2=>h (ec.1 h2 i hi)
 have h2:eT c = []:=by
  unfold eT
  rw[h1]
  rfl
 rw[h1,h2]
 exact⟨⟨fun _=>True,[]⟩,aq.bare fun w _=>trivial,none,0,[],rfl,Own.nil 2,rfl⟩
theorem l8 (c:List UInt8) (h:Hd) (hh:h.Ok c.length) (hc:c.length=128):af Tryz.prog 104 [h.v c.length] (fun w=>By w h c) (ov (eT c) (cX c)):=by
 have hcap:=hh.cap
 refine af.aF ab Tryz.func104 rfl (by decide) (n:=Tryz.f104.ntmps - 1) rfl rfl fun w0 av=>?_
 conv=>whnf
 refine aI.loop ab (ι:=Nat×Option Addr×Nat×List Value) ([4,5,6,7,8,9,10]++List.range' 11 83) (fun x=>x.1≤8∧Own 2 x.1 x.2.1 x.2.2.1 x.2.2.2 (bV (eA c x.1))∧∀ j,j<x.1→ua c j)
  (fun x=>[(4,.v (.slice x.2.1 x.1 x.2.2.1)),(5,.v (.int .i64 (x.1:Int)))]) (fun _=>[]) (fun x=>⟨fun w=>By w h c,aR x.2.1 x.2.2.2⟩)
  (fun x=>8 - x.1) (0,none,0,[]) ⟨Nat.zero_le _,Own.nil 2,fun j hj=>by omega⟩ ?_ rfl (aq.of_le ⟨by simp[aR],fun w hw=>hw⟩) fun x hx=>?_
 · conv=>whnf
   repeat (first | exact aw.nil | refine aw.any ?_ | refine aw.cons ?_)
 obtain⟨i,a,cap,C⟩:=x
 obtain⟨hi,hO,hall⟩:=hx
 dsimp only at hi hO hall ⊢
 conv=>whnf
 refine aH.split (fun hlt=>?_) (fun hlt=>?_)
 · conv=>whnf
   have hlt':i<8:=by
    simp only[au,decide_eq_true_eq] at hlt
    omega
   have em:IntKind.i64.wrap (16*(i:Int))=((16*i:Nat):Int):=by
    rw[wrap_i64 (by omega)]
    omega
   refine aj.ah (ai.pD ab (t:=23) rfl rfl rfl rfl (16*i) 16 em (by show IntKind.i64.wrap (IntKind.i64.wrap (16*(i:Int))+16)=_;rw[em,wrap_i64 (by omega)];omega) (by omega) ?_)
   have hok:(Hd.sub h (16*i)).Ok 16:=Hd.eu hh (by omega)
   have hby : ∀ w,By w h c→By w (Hd.sub h (16*i)) (cut c (16*i) 16):=fun w hw=>By.sub hw (by omega)
   have hbl:(cut c (16*i) 16).length=16:=aZ (by omega)
   have hbt : ∀ k,k<16→aJ (cut c (16*i) 16) k=aJ c (16*i+k):=fun k hk=>a8 (by omega) hk
   conv=>whnf
   refine aI.loop ab (ι:=Nat) ([7]++List.range' 22 11) (fun x=>x≤14∧∀ j,j<x→aJ c (16*i+j)≠0)
    (fun x=>[(7,.v (.int .i64 (x:Int)))]) (fun _=>[]) (fun x=>⟨fun w=>By w h c,aR a C⟩)
    (fun x=>14 - x) 0 ⟨Nat.zero_le _,fun j hj=>by omega⟩ ?_ rfl (aq.refl _) fun n hn=>?_
   · conv=>whnf
     repeat (first | exact aw.nil | refine aw.any ?_ | refine aw.cons ?_)
   obtain⟨hn,hnz⟩:=hn
   conv=>whnf
   repeat (refine aa.of ?_;conv=>whnf)
   generalize hlt2:mL (n:Int) 14=cl
   have hgo : ∀ {K:Prop},K→K:=id
   cases cl
   case' false=>
    have hnl:fV c (16*i) 14=n:=ny c 14 (16*i) n hn hnz (.inl (by
     simp only[au,decide_eq_false_iff_not] at hlt2
     omega))
    conv=>whnf
    repeat (refine aa.of ?_;conv=>whnf)
    repeat' (first
     | (refine aH.no rfl ?_;conv=>whnf))
   case' true=>
    have hn14:n<14:=by
     simp only[au,decide_eq_true_eq] at hlt2
     omega
    conv=>whnf
    refine aj.ah (ai.cL ab (t:=23) rfl rfl rfl rfl n rfl (by omega) hok fun ad had=>?_)
    conv=>whnf
    refine aj.ah (ai.cy ab (t:=5) rfl rfl had (.fact fun w h=>hby w h) rfl (by omega) ?_)
    rw[hbt n (by omega)]
    conv=>whnf
    repeat (refine aa.of ?_;conv=>whnf)
    generalize hb0:iZ (aJ c (16*i+n):Int) 0=cb
    cases cb
    case' true=>
     conv=>whnf
     repeat (refine aa.of ?_;conv=>whnf)
     repeat' (first
      | (refine aH.yes rfl ?_;conv=>whnf))
     have hb0':aJ c (16*i+n)≠0:=by
      simp[ar] at hb0
      omega
     refine⟨n+1,⟨⟨by omega,fun j hj=>?_⟩,by dsimp only;omega⟩,?_,?_,aq.refl _⟩
     · rcases Nat.lt_or_eq_of_le (Nat.lt_succ_iff.1 hj) with h5 | h5
       · exact hnz j h5
       · rw[h5];exact hb0'
     · conv=>whnf
       refine⟨?_,rfl⟩
       repeat (first | exact aw.nil | refine aw.any ?_ | refine aw.cons ?_ | refine aw.eq (by rw[wrap_i64 (by omega)];rfl) ?_)
     · conv=>whnf
       exact trivial
    have hnl:fV c (16*i) 14=n:=ny c 14 (16*i) n hn hnz (.inr (by
     simp[ar] at hb0
     omega))
    conv=>whnf
    repeat (refine aa.of ?_;conv=>whnf)
    repeat' (first
     | (refine aH.no rfl ?_;conv=>whnf))
   all_goals
    have hct:((cut c (16*i) 16).take n)=cut c (16*i) n:=by
     unfold cut
     rw[List.take_take,Nat.min_eq_left (by omega)]
    have hnm:(cut c (16*i) n).length=n:=aZ (by omega)
    have hE:fZ c i=(cut c (16*i) n,aJ c (16*i+14)):=by
     unfold fZ
     rw[hnl]
    have h14:=hbt 14 (by omega)
    refine aI.draw ab mixed rfl rfl ?_
    conv=>whnf
    repeat' (first
     | (refine And.intro ?_ ?_<;>conv=>whnf)
     | (refine ax.same rfl ?_;conv=>whnf)
     | (refine ax.row rfl ?_;conv=>whnf)
     | (refine ax.call rfl ?_;conv=>whnf)
     | (refine bG.of ?_;conv=>whnf)
     | (refine aa.of ?_;conv=>whnf)
     | (refine ai.gA ab (t:=23) rfl rfl rfl n rfl (Nat.le_trans (by omega) hok.cap) ?_;conv=>whnf)
     | (refine ai.bytes ab (t:=23) (u:=9) rfl rfl rfl rfl rfl rfl (l:=cut c (16*i) n) (.fact fun w hw=>by have h2:=aB.take (hby w hw) n;rw[← List.map_take,hct] at h2;exact h2) hnm.symm ?_;conv=>whnf)
     | (refine ai.cL ab (t:=23) rfl rfl rfl rfl 14 rfl (by omega) hok fun ad had=>?_;conv=>whnf)
     | (refine ai.cy ab (t:=5) rfl rfl had (.fact fun w h=>hby w h) rfl (by omega) ?_;conv=>whnf)
     | (intro b0;conv=>whnf)
     | (refine ax.mk ?_ ?_;(focus (first | exact aq.refl _ | exact aq.left _ _ | exact aq.of_le ⟨List.sublist_append_left _ _,fun w h=>h⟩ | exact aq.of_le ⟨List.Sublist.refl _,fun w h=>h.1⟩));conv=>whnf))
    rw[h14,ej]
    have hnd2:=hbt 15 (by omega)
    generalize cut c (16*i) n=nm at *
    generalize aJ c (16*i+14)=nd at *
    have hbad : ∀ (D:World→Prop) (rs:List (Nat×Row)),¬ ua c i→∃ F',aq ⟨D,rs⟩ F'∧ov (eT c) (cX c) (.tuple #[.slice none 0 0,.bool false]) F':=fun D rs hn=>Ay hlt' hn
    refine aI.loop ab (ι:=Nat) ([9]++List.range' 43 9) (fun x=>(n≤x∧x≤14)∧∀ j,n≤j→j<x→aJ c (16*i+j)=0)
     (fun x=>[(9,.v (.int .i64 (x:Int)))]) (fun _=>[[aC nm,aE nd]]) (fun x=>⟨fun w=>By w h c,aR a C⟩)
     (fun x=>14 - x) n ⟨⟨Nat.le_refl _,hn⟩,fun j h1 h2=>by omega⟩ ?_ rfl (aq.refl _) fun m hm=>?_
    · conv=>whnf
      repeat (first | exact aw.nil | refine aw.any ?_ | refine aw.cons ?_)
    obtain⟨⟨hm1,hm2⟩,hmz⟩:=hm
    conv=>whnf
    refine aH.split (fun hlt3=>?_) (fun hlt3=>?_)
    · have hm14:m<14:=by
       simp only[au,decide_eq_true_eq] at hlt3
       omega
      conv=>whnf
      refine aj.ah (ai.cL ab (t:=23) rfl rfl rfl rfl m rfl (by omega) hok fun ad had=>?_)
      conv=>whnf
      refine aj.ah (ai.cy ab (t:=5) rfl rfl had (.fact fun w h=>hby w h) rfl (by omega) ?_)
      rw[hbt m (by omega)]
      conv=>whnf
      refine aH.split (fun hb1=>?_) (fun hb1=>?_)
      · conv=>whnf
        refine hbad _ _ fun he=>?_
        have:=he.tail m hm14 (by omega)
        simp[ar,this] at hb1
      · have hb1':aJ c (16*i+m)=0:=by
         simp[ar] at hb1
         omega
        conv=>whnf
        refine⟨m+1,⟨⟨⟨by omega,by omega⟩,fun j h1 h2=>?_⟩,by dsimp only;omega⟩,?_,?_,aq.refl _⟩
        · rcases Nat.lt_or_eq_of_le (Nat.lt_succ_iff.1 h2) with h5 | h5
          · exact hmz j h1 h5
          · rw[h5];exact hb1'
        · conv=>whnf
          refine⟨?_,rfl⟩
          repeat (first | exact aw.nil | refine aw.any ?_ | refine aw.cons ?_ | refine aw.eq (by rw[wrap_i64 (by omega)];rfl) ?_)
        · conv=>whnf
          exact⟨⟨rfl,rfl⟩,trivial⟩
    have hm14:m=14:=by
     simp only[au,decide_eq_false_iff_not] at hlt3
     omega
    subst hm14
    conv=>whnf
    refine aj.ah (ai.cL ab (t:=23) rfl rfl rfl rfl 15 rfl (by omega) hok fun ad had=>?_)
    conv=>whnf
    refine aj.ah (ai.cy ab (t:=5) rfl rfl had (.fact fun w h=>hby w h) rfl (by omega) ?_)
    rw[hnd2]
    conv=>whnf
    repeat (refine aa.of ?_;conv=>whnf)
    generalize hp1:iZ (aJ c (16*i+15):Int) 0=cp
    cases cp
    rotate_left
    · conv=>whnf
      repeat (refine aa.of ?_;conv=>whnf)
      repeat' (first
       | (refine aH.yes rfl ?_;conv=>whnf)
       | (refine aH.no rfl ?_;conv=>whnf))
      refine hbad _ _ fun he=>?_
      have:=he.pad
      simp[ar,this] at hp1
    have hp1':aJ c (16*i+15)=0:=by
     simp[ar] at hp1
     omega
    conv=>whnf
    repeat (refine aa.of ?_;conv=>whnf)
    refine aj.ah (ai.EF (a:=(nm,nd)) (b:=([],0)) ?_)
    conv=>whnf
    repeat (refine aa.of ?_;conv=>whnf)
    generalize hne:(!decide (((nm,nd):En)=([],0)))=cn
    cases cn
    case' false=>
     have hname:fZ c i=([],0)∨(cK (fZ c i).1=true∧(fZ c i).2≠0):=by
      rw[hE]
      exact .inl (by simpa using hne)
     conv=>whnf
     repeat (refine aa.of ?_;conv=>whnf)
    case' true=>
     have hne' : ¬ ((nm,nd):En)=([],0):=by
      intro h
      rw[h] at hne
      simp at hne
     conv=>whnf
     repeat (refine aa.of ?_;conv=>whnf)
     refine ak.val (oJ nm (by omega)) (fun w hw=>trivial) (fun v D hv=>?_)
     generalize hvn:cK nm=cv at hv
     subst hv
     cases cv
     case' false=>
      conv=>whnf
      repeat (refine aa.of ?_;conv=>whnf)
      repeat' (first
       | (refine aH.yes rfl ?_;conv=>whnf)
       | (refine aH.no rfl ?_;conv=>whnf))
      refine hbad _ _ fun he=>?_
      have:=he.name
      rw[hE] at this
      rcases this with h5 | h5
      · exact hne' h5
      · rw[hvn] at h5
        cases h5.1
     conv=>whnf
     repeat (refine aa.of ?_;conv=>whnf)
     generalize hz0:cN (nd:Int) 0=cz
     cases cz
     case' true=>
      conv=>whnf
      repeat (refine aa.of ?_;conv=>whnf)
      repeat' (first
       | (refine aH.yes rfl ?_;conv=>whnf)
       | (refine aH.no rfl ?_;conv=>whnf))
      refine hbad _ _ fun he=>?_
      have:=he.name
      rw[hE] at this
      rcases this with h5 | h5
      · exact hne' h5
      · simp[aD] at hz0
        omega
     have hname:fZ c i=([],0)∨(cK (fZ c i).1=true∧(fZ c i).2≠0):=by
      rw[hE]
      refine .inr ⟨hvn,?_⟩
      simp[aD] at hz0
      omega
     conv=>whnf
     repeat (refine aa.of ?_;conv=>whnf)
     repeat' (first
      | (refine aH.no rfl ?_;conv=>whnf)
      | (refine aH.yes rfl ?_;conv=>whnf))
    all_goals
     have hlen:(eA c i).length=i:=by simp[eA]
     refine aI.loop ab (ι:=Nat) ([10]++List.range' 72 18) (fun x=>x≤i∧∀ j,j<x→nm = []∨(fZ c j).1≠nm)
      (fun x=>[(10,.v (.int .i64 (x:Int)))]) (fun _=>[[aC nm,aE nd]]) (fun x=>⟨fun w=>By w h c,aR a C⟩)
      (fun x=>i - x) 0 ⟨Nat.zero_le _,fun j h1=>by omega⟩ ?_ rfl (aq.refl _) fun q hq=>?_
     · conv=>whnf
       repeat (first | exact aw.nil | refine aw.any ?_ | refine aw.cons ?_)
     obtain⟨hq1,hq2⟩:=hq
     conv=>whnf
     refine aH.split (fun hlt4=>?_) (fun hlt4=>?_)
     · have hqi:q<i:=by
        simp only[au,decide_eq_true_eq] at hlt4
        omega
       have hgq:(eA c i)[q]'(by omega)=fZ c q:=by simp[eA]
       have hcell:=(dz (l:=eA c i) (i:=q) (by omega)).1
       rw[hgq] at hcell
       have hsee:bp w0 (fun _ _=>False) av [] [] ⟨fun w=>By w h c,aR a C⟩ a (bV (eA c i)):=by
        have:=Own.Db (w0:=w0) (R:=fun _ _=>False) (av:=av) (bs:=[]) (cs:=[]) (r1:=[]) (r2:=[]) (D:=fun w=>By w h c) hO
        simpa using this
       conv=>whnf
       refine aI.draw ab mixed rfl rfl ?_
       conv=>whnf
       repeat' (first
        | (refine And.intro ?_ ?_<;>conv=>whnf)
        | (refine ax.same rfl ?_;conv=>whnf)
        | (refine ax.row rfl ?_;conv=>whnf)
        | (refine ax.call rfl ?_;conv=>whnf)
        | (refine bG.of ?_;conv=>whnf)
        | (refine aa.of ?_;conv=>whnf)
        | (refine ai.ph (l:=nm) (m:=[]) ?_;conv=>whnf)
        | (refine aH.split (b:=!(nm == [])) (fun hqa=>?_) (fun hqa=>?_)<;>conv=>whnf)
        | (refine ai.index ab (t:=127) rfl rfl rfl (by omega) (by omega) (fun ha=>hO.e6 ha) fun ad had=>?_;conv=>whnf)
        | (refine ai.bS ab (t:=9) rfl rfl (ad:=ad) (k:=2*q) (L:=bV (eA c i)) (v:=aC (fZ c q).1) (by rw[← had];exact hsee) (fun hs=>by rw[Addr.dE hs];congr 1;simp;try omega) hcell ?_;conv=>whnf)
        | (refine ai.fL (l:=(fZ c q).1) (m:=nm) ?_;conv=>whnf)
        | (refine ax.mk ?_ ?_;(focus (first | exact aq.refl _ | exact aq.left _ _ | exact aq.of_le ⟨List.sublist_append_left _ _,fun w h=>h⟩ | exact aq.of_le ⟨List.Sublist.refl _,fun w h=>h.1⟩));conv=>whnf))
       all_goals first
        | (
         refine⟨q+1,⟨⟨hqi,fun j hj=>.inl ?_⟩,by dsimp only;omega⟩,?_,?_,aq.refl _⟩
         · simpa using hqa
         · conv=>whnf
           refine⟨?_,rfl⟩
           repeat (first | exact aw.nil | refine aw.any ?_ | refine aw.cons ?_ | refine aw.eq (by rw[wrap_i64 (by omega)];rfl) ?_)
         · conv=>whnf
           exact⟨⟨rfl,rfl⟩,trivial⟩
         )
        | (
         refine aH.split (fun hqb=>?_) (fun hqb=>?_)
         · conv=>whnf
           refine hbad _ _ fun he=>?_
           have:=he.only
           rw[hE] at this
           rcases this with h5 | h5
           · have h5:nm = []:=h5
             rw[h5] at hqa
             cases hqa
           · have:=h5 q hqi
             simp at hqb
             exact this hqb
         · conv=>whnf
           refine⟨q+1,⟨⟨hqi,fun j hj=>?_⟩,by dsimp only;omega⟩,?_,?_,aq.refl _⟩
           · rcases Nat.lt_or_eq_of_le (Nat.lt_succ_iff.1 hj) with h5 | h5
             · exact hq2 j h5
             · rw[h5]
               refine .inr fun h6=>?_
               simp[h6] at hqb
           · conv=>whnf
             refine⟨?_,rfl⟩
             repeat (first | exact aw.nil | refine aw.any ?_ | refine aw.cons ?_ | refine aw.eq (by rw[wrap_i64 (by omega)];rfl) ?_)
           · conv=>whnf
             exact⟨⟨rfl,rfl⟩,trivial⟩
         )
     · have hqi:q=i:=by
        simp only[au,decide_eq_false_iff_not] at hlt4
        omega
       subst hqi
       have hOk:ua c q:=⟨fun k h1 h2=>hmz k (by omega) h1,hp1',hname,by
        rw[hE]
        by_cases h5:nm = []
        · exact .inl h5
        · exact .inr fun j hj=>(hq2 j hj).resolve_left h5⟩
       conv=>whnf
       refine aj.build ab (t:=127) rfl rfl rfl [.agg ⟨[aC nm,aE nd]⟩] rfl rfl (by simp[Value.cells]) (by decide) fun b1=>?_
       conv=>whnf
       refine aj.c_ (F':=⟨fun w=>By w h c,[]++aR a C ++ [(b1,Row.c (gQ (nm,nd)))]⟩) (aq.of_le ⟨by simp[Value.cells,gQ],fun w hw=>hw⟩) ?_
       refine aj.append ab (t:=127) (xt:=127) rfl rfl rfl rfl rfl rfl (r1:=[]) (r2:=[(b1,Row.c (gQ (nm,nd)))]) (M:=gQ (nm,nd)) hO (bp.row (by simp)) rfl (by simp[gQ,aC,aE,aO]) (by omega) (by simp;omega) fun a' c' C' hO'=>?_
       conv=>whnf
       refine⟨(q+1,a',c',C'),⟨⟨hlt',?_,fun j hj=>?_⟩,by dsimp only;omega⟩,?_,?_,?_⟩
       · dsimp only
         rw[qA,ox,hE]
         exact hO'
       · rcases Nat.lt_or_eq_of_le (Nat.lt_succ_iff.1 hj) with h5 | h5
         · exact hall j h5
         · rw[h5];exact hOk
       · conv=>whnf
         refine⟨?_,rfl⟩
         repeat (first | exact aw.nil | refine aw.any ?_ | refine aw.cons ?_ | refine aw.eq (by rw[wrap_i64 (by omega)];rfl) ?_)
       · conv=>whnf
         exact trivial
       · refine aq.of_le ⟨by simp,fun w hw=>hw⟩
 · conv=>whnf
   have hie:i=8:=by
    simp only[au,decide_eq_false_iff_not] at hlt
    omega
   subst hie
   have h1:cX c=true:=ec.2 hall
   have h2:eT c=eA c 8:=by
    unfold eT
    rw[h1]
    rfl
   rw[h1,h2]
   have hel:(eA c 8).length=8:=by simp[eA]
   refine⟨⟨fun _=>True,aR a C⟩,aq.imp fun _ _=>trivial,a,cap,C,?_,by rw[hel];exact hO,rfl⟩
   rw[hel]
theorem nc (c:List UInt8) (h:Hd) (hh:h.Ok c.length) (hc:c.length=128):af Tryz.prog 104 [h.v c.length] (fun w=>By w h c) (Ds (eT c) (cX c)):=
 (l8 c h hh hc).weaken fun v F ⟨a,cap,C,hv,hO,hF⟩=>by
  subst hv hF
  exact⟨⟨fun w=>aB w a (bV (eT c)),[]⟩,(Own.gives hO).trans (aq.imp fun w h=>h.2),⟨a,cap⟩,rfl,⟨fun ha=>hO.e6 ha,hO.fit⟩,rfl⟩
end Go.Proofs.YtfeoedkmndkbjaaGreatDoor
