/- Parts of the proof: GaP, GaQ, FdD, FcG, FcH, GaR. -/
import Derived.Test.YtfeoedkmndkbjaaGreatDoorQN
namespace Go.Proofs.YtfeoedkmndkbjaaGreatDoor
open Go Go.Sx
set_option maxRecDepth 100000
set_option maxHeartbeats 4000000
set_option linter.unusedVariables false
set_option linter.unusedSimpArgs false
theorem rE (d:List UInt8) (h:Hd) (hh:h.Ok d.length) (hl:d.length≤1000000) (m:Nat) :
 af Tryz.prog 58 [h.v d.length,.int .i64 (m:Int)] (fun w=>By w h d) (fun v F=>∃ k s b,v = .tuple #[.agg ⟨bg k s b⟩,.int .i64 (oq d m:Int)]∧(oq d m=0→s=rs d m)):=by
 have hgs:=dA d h hh hl (m:Int)
 have hpf:oq d m=if a7 d m=0∧rk d m=2 then 14 else a7 d m:=rfl
 generalize oq d m=e at *
 obtain⟨k1,s1,b1,hL,hE⟩:=cJ d (m:Int)
 rw[hL] at hgs
 rw[Int.toNat_natCast] at hE
 have hkk:a7 d (m:Int)=0→k1=rk d m∧s1=rs d m:=fun hg=>⟨(hE hg).1,(hE hg).2.1⟩
 clear hE hL
 generalize a7 d (m:Int)=g at *
 have ht1:cN (g:Int) 0=decide (g=0):=dP g 0
 have ht2:cN (k1:Int) 2=decide (k1=2):=dP k1 2
 refine af.aF ab Tryz.func58 rfl (by decide) (n:=Tryz.f58.ntmps - 2) rfl rfl fun w0 av=>?_
 conv=>whnf
 repeat (refine aa.of ?_;conv=>whnf)
 intro b4
 conv=>whnf
 repeat (refine aa.of ?_;conv=>whnf)
 refine ak.val hgs (fun w hw=>hw) (fun v D hv=>?_)
 subst hv
 conv=>whnf
 repeat (refine aa.of ?_;conv=>whnf)
 intro b6
 conv=>whnf
 repeat (refine aa.of ?_;conv=>whnf)
 rw[ht1]
 by_cases hg:g=0
 · obtain⟨q1,q2⟩:=hkk hg
   rw[decide_eq_true hg]
   conv=>whnf
   repeat (refine aa.of ?_;conv=>whnf)
   rw[ht2]
   by_cases hr:k1=2
   · rw[if_pos ⟨hg,by omega⟩] at hpf
     rw[decide_eq_true hr]
     conv=>whnf
     repeat (refine aa.of ?_;conv=>whnf)
     subst hpf
     exact⟨_,aq.refl _,0,0,fun _=>0,rfl,fun h=>by cases h⟩
   · rw[if_neg fun h=>hr (q1.trans h.2)] at hpf
     rw[decide_eq_false hr]
     conv=>whnf
     repeat (refine aa.of ?_;conv=>whnf)
     subst hpf
     exact⟨_,aq.refl _,k1,s1,b1,rfl,fun _=>q2⟩
 · rw[if_neg fun h=>hg h.1] at hpf
   rw[decide_eq_false hg]
   conv=>whnf
   repeat (refine aa.of ?_;conv=>whnf)
   subst hpf
   exact⟨_,aq.refl _,k1,s1,b1,rfl,fun h=>absurd h hg⟩
section
variable (d:List UInt8) (h:Hd) (hh:h.Ok d.length) (hl:d.length≤1000000) (h38:aM d=0) (op node at0 n:Int) (k:Hd) (data:List UInt8) (hk:k.Ok data.length) (hp:data.length≤200)
include hh hl hp
include h38 in
theorem z_ (h1:op=1) (fl:Nat) (hfl:fl≤7) (ha:at0=(fl:Int)) :
 af Tryz.prog 30 [h.v d.length,.agg ⟨dD op node at0 n k data.length⟩] (fun w=>By w h d∧By w k data) (cZ (i_ d data fl)):=by
 have hos:=xY d h hh hl h38 at0 data hp fl hfl ha
 generalize i_ d data fl=R at *
 have hos2:af Tryz.prog 57 [h.v d.length,aC data,.int .i64 at0] (fun w=>By w h d) (fun v F=>∃ (h2 kb:Hd) (n m:Nat) (a b:Int),v = .tuple #[h2.v n,.agg ⟨[.int .i64 a,.int .i64 b,kb.v m]⟩,.int .i64 (R.e:Int)]∧cZ R v F):=by
  refine hos.weaken fun v F hv=>⟨F,aq.refl _,?_⟩
  have hv':=hv
  unfold cZ at hv
  by_cases he:R.e=0
  · rw[if_pos he] at hv
    obtain⟨h2,kb,rfl,-,-,-⟩:=hv
    exact⟨h2,kb,_,_,_,_,by rw[he];rfl,hv'⟩
  · rw[if_neg he] at hv
    obtain⟨h2,kb,q1,q2,q3,q4,rfl⟩:=hv
    exact⟨h2,kb,_,_,_,_,rfl,hv'⟩
 clear hos
 refine af.aF ab Tryz.func30 rfl (by decide) (n:=Tryz.f30.ntmps - 2) rfl rfl fun w0 av=>?_
 conv=>whnf
 repeat (refine aa.of ?_;conv=>whnf)
 intro b3
 conv=>whnf
 repeat (refine aa.of ?_;conv=>whnf)
 intro b5
 conv=>whnf
 repeat (refine aa.of ?_;conv=>whnf)
 refine aH.yes (by rw[h1];simp[aD]) ?_
 conv=>whnf
 repeat (refine aa.of ?_;conv=>whnf)
 refine aj.ah (ai.bytes ab (t:=23) (u:=9) rfl rfl rfl rfl rfl rfl (l:=data) (.fact fun w hw=>hw.2) rfl ?_)
 conv=>whnf
 repeat (refine aa.of ?_;conv=>whnf)
 refine ak.pure hos2 (fun w hw=>hw.1) (fun v D hv=>?_)
 obtain⟨h2,kb,q1,q2,q3,q4,rfl,hv⟩:=hv
 conv=>whnf
 repeat (refine aa.of ?_;conv=>whnf)
 exact⟨_,aq.of_le ⟨List.sublist_append_right _ _,fun w h=>h.2⟩,hv⟩
omit hp in
include h38 in
theorem Au (h1:op=2) (m off cnt:Nat) (hm:node=(m:Int)) (ha:at0=(off:Int)) (hn:n=(cnt:Int)) (hof:off≤9223372036854775807) (hcn:cnt≤1536) :
 af Tryz.prog 30 [h.v d.length,.agg ⟨dD op node at0 n k data.length⟩] (fun w=>By w h d∧By w k data) (cZ (iX d m off cnt)):=by
 have hfs:=rE d h hh hl m
 have hrs:=fun hg=>wK d h hh hl m off cnt hg at0 n ha hn hof (by omega)
 have hgg:oq d m=0→a7 d (m:Int)=0:=fun h=>(jx h38 h).2.1
 rw[← hm] at hfs hrs
 unfold iX
 generalize ((ay d m).drop off).take cnt=c at *
 generalize oq d m=e at *
 refine af.aF ab Tryz.func30 rfl (by decide) (n:=Tryz.f30.ntmps - 2) rfl rfl fun w0 av=>?_
 conv=>whnf
 repeat (refine aa.of ?_;conv=>whnf)
 intro b3
 conv=>whnf
 repeat (refine aa.of ?_;conv=>whnf)
 intro b5
 conv=>whnf
 repeat (refine aa.of ?_;conv=>whnf)
 refine aH.no (by rw[h1];simp[aD]) ?_
 conv=>whnf
 repeat (refine aa.of ?_;conv=>whnf)
 refine aH.yes (by rw[h1];simp[aD]) ?_
 conv=>whnf
 repeat (refine aa.of ?_;conv=>whnf)
 refine ak.pure hfs (fun w hw=>hw.1) (fun v D hv=>?_)
 obtain⟨k1,s1,b1,rfl,-⟩:=hv
 conv=>whnf
 repeat (refine aa.of ?_;conv=>whnf)
 intro b7
 conv=>whnf
 repeat (refine aa.of ?_;conv=>whnf)
 refine aH.split (fun hq=>?_) (fun hq=>?_)
 · have he:e≠0:=by
    simp[ar] at hq
    omega
   rw[if_pos he]
   conv=>whnf
   repeat (refine aa.of ?_;conv=>whnf)
   exact⟨_,aq.refl _,jr he rfl⟩
 have he:e=0:=by
  simp[ar] at hq
  omega
 rw[if_neg (by rw[he];simp)]
 conv=>whnf
 repeat (refine aa.of ?_;conv=>whnf)
 refine ak.pure (hrs (by rw[hm];exact hgg he)) (fun w hw=>hw.1.1) (fun v D hv=>?_)
 obtain⟨kb,rfl,hkb,rfl⟩:=hv
 conv=>whnf
 repeat (refine aa.of ?_;conv=>whnf)
 refine⟨⟨fun w=>By w h d∧By w kb c,[]⟩,aq.of_le ⟨by simp[Fx.and],fun w hw=>⟨hw.1.1.1,hw.2⟩⟩,?_⟩
 unfold cZ
 rw[if_pos rfl]
 exact⟨h,kb,rfl,hh,hkb,rfl⟩
include hk in
include h38 in
theorem Ap (h1:op=3) (m:Nat) (hm:node=(m:Int)) (ha : -1≤at0∧at0≤9223372036854775807) :
 af Tryz.prog 30 [h.v d.length,.agg ⟨dD op node at0 n k data.length⟩] (fun w=>By w h d∧By w k data) (cZ (lL d m at0 data)):=by
 have hfs:=rE d h hh hl m
 have hsz:=vR d m
 have hof:gF d m at0≤9223372036854775807:=by
  unfold gF
  split<;>omega
 have hrs:=fun hg hk2=>sl d h hh hl m (gF d m at0) (gF d m at0:Int) rfl hof data k hk (by omega) hg hk2
 have hgg:oq d m=0→a7 d (m:Int)=0∧rk d m≠2:=fun h=>⟨(jx h38 h).2.1,by rw[(jx h38 h).2.2];decide⟩
 have ho1:at0 = -1→gF d m at0=rs d m:=fun h=>if_pos h
 have ho2:at0≠-1→(gF d m at0:Int)=at0:=fun h=>by
  unfold gF
  rw[if_neg h]
  omega
 rw[← hm] at hfs hrs
 unfold lL
 generalize (cj d m (gF d m at0) data).1=d2 at *
 generalize (cj d m (gF d m at0) data).2=e2 at *
 generalize gF d m at0=off at *
 generalize oq d m=e at *
 obtain⟨offI,hoI⟩ : ∃ x:Int,x=(off:Int):=⟨_,rfl⟩
 rw[← hoI] at hrs ho2 ⊢
 refine af.aF ab Tryz.func30 rfl (by decide) (n:=Tryz.f30.ntmps - 2) rfl rfl fun w0 av=>?_
 conv=>whnf
 repeat (refine aa.of ?_;conv=>whnf)
 intro b3
 conv=>whnf
 repeat (refine aa.of ?_;conv=>whnf)
 intro b5
 conv=>whnf
 repeat (refine aa.of ?_;conv=>whnf)
 refine aH.no (by rw[h1];simp[aD]) ?_
 conv=>whnf
 repeat (refine aa.of ?_;conv=>whnf)
 refine aH.no (by rw[h1];simp[aD]) ?_
 conv=>whnf
 repeat (refine aa.of ?_;conv=>whnf)
 refine aH.yes (by rw[h1];simp[aD]) ?_
 conv=>whnf
 repeat (refine aa.of ?_;conv=>whnf)
 refine ak.pure hfs (fun w hw=>hw.1) (fun v D hv=>?_)
 obtain⟨k1,s1,b1,rfl,hs1⟩:=hv
 conv=>whnf
 repeat (refine aa.of ?_;conv=>whnf)
 intro b7
 conv=>whnf
 repeat (refine aa.of ?_;conv=>whnf)
 refine aH.split (fun hq=>?_) (fun hq=>?_)
 · have he:e≠0:=by
    simp[ar] at hq
    omega
   rw[if_pos he]
   conv=>whnf
   repeat (refine aa.of ?_;conv=>whnf)
   exact⟨_,aq.refl _,jr he rfl⟩
 have he:e=0:=by
  simp[ar] at hq
  omega
 rw[if_neg (by rw[he];simp)]
 obtain⟨hg,hr2⟩:=hgg he
 have hrs2:=hrs (by rw[hm];exact hg) hr2
 have hs2:=hs1 he
 conv=>whnf
 repeat (refine aa.of ?_;conv=>whnf)
 refine aH.split (fun hq2=>?_) (fun hq2=>?_)
 case' refine_1=>
  have ho3:aE s1=Value.int .i64 offI:=by
   have:at0 = -1:=by
    simp[au] at hq2
    omega
   rw[hoI,ho1 this,hs2]
   rfl
  conv=>whnf
  repeat (refine aa.of ?_;conv=>whnf)
  rw[ho3]
 case' refine_2=>
  have ho3:at0=offI:=by
   have:at0≠-1:=by
    simp[au] at hq2
    omega
   exact(ho2 this).symm
  subst ho3
 all_goals
  conv=>whnf
  repeat (refine aa.of ?_;conv=>whnf)
  refine ak.pure hrs2 (fun w hw=>⟨hw.1.1,hw.1.2⟩) (fun v D hv=>?_)
  obtain⟨h2,rfl,hh2,rfl⟩:=hv
  conv=>whnf
  repeat (refine aa.of ?_;conv=>whnf)
  refine aH.split (fun hq3=>?_) (fun hq3=>?_)
  · have he2:e2≠0:=by
     simp[ar] at hq3
     omega
    rw[if_pos he2]
    conv=>whnf
    repeat (refine aa.of ?_;conv=>whnf)
    exact⟨_,aq.refl _,jr he2 rfl⟩
  have he2:e2=0:=by
   simp[ar] at hq3
   omega
  rw[if_neg (by rw[he2];simp)]
  conv=>whnf
  repeat (refine aa.of ?_;conv=>whnf)
  refine aI.draw ab mixed rfl rfl ?_
  conv=>whnf
  repeat' (first
   | (refine And.intro ?_ ?_<;>conv=>whnf)
   | (refine ax.same rfl ?_;conv=>whnf)
   | (refine ax.row rfl ?_;conv=>whnf)
   | (refine ax.call rfl ?_;conv=>whnf)
   | (refine bG.of ?_;conv=>whnf)
   | (refine aa.of ?_;conv=>whnf)
   | (refine ax.mk ?_ ?_;(focus (first | exact aq.refl _ | exact aq.left _ _ | exact aq.of_le ⟨List.sublist_append_left _ _,fun w h=>h⟩ | exact aq.of_le ⟨List.Sublist.refl _,fun w h=>h.1⟩));conv=>whnf))
  all_goals
   refine⟨⟨fun w=>By w h2 d2∧By w Hd.nil [],[]⟩,aq.of_le ⟨by simp[Fx.and],fun w hw=>⟨hw.2,By.nil w⟩⟩,?_⟩
   unfold cZ
   rw[if_pos rfl]
   exact⟨h2,Hd.nil,rfl,hh2,Hd.dq,rfl⟩
theorem AP (h1:op=4) :
 af Tryz.prog 30 [h.v d.length,.agg ⟨dD op node at0 n k data.length⟩] (fun w=>By w h d∧By w k data) (cZ (jD d data)):=by
 have hus:=so d h hh hl data hp
 unfold jD
 generalize (dc d data).1=d2 at *
 generalize (dc d data).2=e at *
 refine af.aF ab Tryz.func30 rfl (by decide) (n:=Tryz.f30.ntmps - 2) rfl rfl fun w0 av=>?_
 conv=>whnf
 repeat (refine aa.of ?_;conv=>whnf)
 intro b3
 conv=>whnf
 repeat (refine aa.of ?_;conv=>whnf)
 intro b5
 conv=>whnf
 repeat (refine aa.of ?_;conv=>whnf)
 refine aH.no (by rw[h1];simp[aD]) ?_
 conv=>whnf
 repeat (refine aa.of ?_;conv=>whnf)
 refine aH.no (by rw[h1];simp[aD]) ?_
 conv=>whnf
 repeat (refine aa.of ?_;conv=>whnf)
 refine aH.no (by rw[h1];simp[aD]) ?_
 conv=>whnf
 repeat (refine aa.of ?_;conv=>whnf)
 refine aH.yes (by rw[h1];simp[aD]) ?_
 conv=>whnf
 repeat (refine aa.of ?_;conv=>whnf)
 refine aj.ah (ai.bytes ab (t:=23) (u:=9) rfl rfl rfl rfl rfl rfl (l:=data) (.fact fun w hw=>hw.2) rfl ?_)
 conv=>whnf
 repeat (refine aa.of ?_;conv=>whnf)
 refine ak.pure hus (fun w hw=>hw.1) (fun v D hv=>?_)
 obtain⟨k2,rfl,hk2,rfl⟩:=hv
 conv=>whnf
 repeat (refine aa.of ?_;conv=>whnf)
 exact m_ hk2 fun w hw=>hw.2
theorem z6 (h1:op=5) :
 af Tryz.prog 30 [h.v d.length,.agg ⟨dD op node at0 n k data.length⟩] (fun w=>By w h d∧By w k data) (cZ (lM d data)):=by
 have hus:=iR d h hh hl data hp 2
 unfold lM
 generalize bE d data 2=mr at *
 obtain⟨mn,d2,e⟩:=mr
 dsimp only at hus ⊢
 refine af.aF ab Tryz.func30 rfl (by decide) (n:=Tryz.f30.ntmps - 2) rfl rfl fun w0 av=>?_
 conv=>whnf
 repeat (refine aa.of ?_;conv=>whnf)
 intro b3
 conv=>whnf
 repeat (refine aa.of ?_;conv=>whnf)
 intro b5
 conv=>whnf
 repeat (refine aa.of ?_;conv=>whnf)
 refine aH.no (by rw[h1];simp[aD]) ?_
 conv=>whnf
 repeat (refine aa.of ?_;conv=>whnf)
 refine aH.no (by rw[h1];simp[aD]) ?_
 conv=>whnf
 repeat (refine aa.of ?_;conv=>whnf)
 refine aH.no (by rw[h1];simp[aD]) ?_
 conv=>whnf
 repeat (refine aa.of ?_;conv=>whnf)
 refine aH.no (by rw[h1];simp[aD]) ?_
 conv=>whnf
 repeat (refine aa.of ?_;conv=>whnf)
 refine aH.yes (by rw[h1];simp[aD]) ?_
 conv=>whnf
 repeat (refine aa.of ?_;conv=>whnf)
 refine aj.ah (ai.bytes ab (t:=23) (u:=9) rfl rfl rfl rfl rfl rfl (l:=data) (.fact fun w hw=>hw.2) rfl ?_)
 conv=>whnf
 repeat (refine aa.of ?_;conv=>whnf)
 refine ak.pure hus (fun w hw=>hw.1) (fun v D hv=>?_)
 obtain⟨k2,rfl,hk2,rfl⟩:=hv
 conv=>whnf
 repeat (refine aa.of ?_;conv=>whnf)
 exact m_ hk2 fun w hw=>hw.2
theorem AB (h1:op=6) :
 af Tryz.prog 30 [h.v d.length,.agg ⟨dD op node at0 n k data.length⟩] (fun w=>By w h d∧By w k data) (cZ (eW d data)):=by
 have hls:=x8 d h hh hl data hp
 have hR:(eW d data).e=0→(eW d data).next=d∧(eW d data).val=0∧(eW d data).kind=0:=fun he=>by
  unfold eW at he ⊢
  split at he<;>rename_i c
  · exact absurd he c
  · rw[if_neg c]
    exact⟨rfl,rfl,rfl⟩
 generalize eW d data=R at *
 obtain⟨n1,v1,k1,dt,e⟩:=R
 dsimp only at hls hR
 refine af.aF ab Tryz.func30 rfl (by decide) (n:=Tryz.f30.ntmps - 2) rfl rfl fun w0 av=>?_
 conv=>whnf
 repeat (refine aa.of ?_;conv=>whnf)
 intro b3
 conv=>whnf
 repeat (refine aa.of ?_;conv=>whnf)
 intro b5
 conv=>whnf
 repeat (refine aa.of ?_;conv=>whnf)
 refine aH.no (by rw[h1];simp[aD]) ?_
 conv=>whnf
 repeat (refine aa.of ?_;conv=>whnf)
 refine aH.no (by rw[h1];simp[aD]) ?_
 conv=>whnf
 repeat (refine aa.of ?_;conv=>whnf)
 refine aH.no (by rw[h1];simp[aD]) ?_
 conv=>whnf
 repeat (refine aa.of ?_;conv=>whnf)
 refine aH.no (by rw[h1];simp[aD]) ?_
 conv=>whnf
 repeat (refine aa.of ?_;conv=>whnf)
 refine aH.no (by rw[h1];simp[aD]) ?_
 conv=>whnf
 repeat (refine aa.of ?_;conv=>whnf)
 refine aj.ah (ai.bytes ab (t:=23) (u:=9) rfl rfl rfl rfl rfl rfl (l:=data) (.fact fun w hw=>hw.2) rfl ?_)
 conv=>whnf
 repeat (refine aa.of ?_;conv=>whnf)
 refine ak.pure hls (fun w hw=>hw.1) (fun v D hv=>?_)
 obtain⟨k2,rfl,hk2,rfl⟩:=hv
 conv=>whnf
 repeat (refine aa.of ?_;conv=>whnf)
 by_cases he:e=0
 · obtain⟨rfl,rfl,rfl⟩:=hR he
   subst he
   refine⟨⟨fun w=>By w h n1∧By w k2 dt,[]⟩,aq.of_le ⟨by simp[Fx.and],fun w hw=>⟨hw.1.1,hw.2⟩⟩,?_⟩
   unfold cZ
   rw[if_pos rfl]
   exact⟨h,k2,rfl,hh,hk2,rfl⟩
 · exact⟨_,aq.refl _,dG (r:=⟨n1,v1,k1,dt,e⟩) he h k2 _ _ 0 0 _⟩
end
end Go.Proofs.YtfeoedkmndkbjaaGreatDoor
namespace Go.Proofs.YtfeoedkmndkbjaaGreatDoor
open Go Go.Sx
set_option maxRecDepth 100000
set_option maxHeartbeats 4000000
set_option linter.unusedVariables false
set_option linter.unusedSimpArgs false
theorem jF (d:List UInt8) (h:Hd) (hh:h.Ok d.length) (hl:d.length≤1000000) (op node at0 n:Int) (k:Hd) (data:List UInt8) (h38:aM d=0) (hF:fC op node at0 n data.length) (r:Rs)
 (hop:af Tryz.prog 30 [h.v d.length,.agg ⟨dD op node at0 n k data.length⟩] (fun w=>By w h d∧By w k data) (cZ r)) (hrl:r.e=0→r.next.length=12288) :
 af Tryz.prog 11 [h.v d.length,.agg ⟨dD op node at0 n k data.length⟩] (fun w=>By w h d∧By w k data) (kB r):=by
 have hfm:=gH op node at0 n k data.length
 rw[decide_eq_true hF] at hfm
 have hck:=eN d h hh hl
 rw[h38] at hck
 obtain⟨tr,htr⟩ : ∃ tr,tr=true:=⟨_,rfl⟩
 rw[← htr] at hfm
 obtain⟨z1,hz1⟩ : ∃ z:Nat,z=0:=⟨_,rfl⟩
 rw[← hz1] at hck
 obtain⟨next,val,kind,rd,e⟩:=r
 unfold kB
 dsimp only at hrl ⊢
 have hop2:af Tryz.prog 30 [h.v d.length,.agg ⟨dD op node at0 n k data.length⟩] (fun w=>By w h d∧By w k data) (fun v F=>∃ (h2 kb:Hd) (n m:Nat) (a b:Int),v = .tuple #[h2.v n,.agg ⟨[.int .i64 a,.int .i64 b,kb.v m]⟩,.int .i64 (e:Int)]∧
  (e=0→n=next.length∧m=rd.length∧a=val∧b=kind∧h2.Ok next.length∧kb.Ok rd.length∧F=⟨fun w=>By w h2 next∧By w kb rd,[]⟩)):=by
  refine hop.weaken fun v F hv=>⟨F,aq.refl _,?_⟩
  unfold cZ at hv
  dsimp only at hv
  by_cases he:e=0
  · rw[if_pos he] at hv
    obtain⟨h2,kb,rfl,a1,a2,rfl⟩:=hv
    exact⟨h2,kb,_,_,_,_,by rw[he];rfl,fun _=>⟨rfl,rfl,rfl,rfl,a1,a2,rfl⟩⟩
  · rw[if_neg he] at hv
    obtain⟨h2,kb,q1,q2,q3,q4,rfl⟩:=hv
    exact⟨h2,kb,q1,q2,q3,q4,rfl,fun h=>absurd h he⟩
 clear hop
 refine af.aF ab Tryz.func11 rfl (by decide) (n:=Tryz.f11.ntmps - 2) rfl rfl fun w0 av=>?_
 conv=>whnf
 repeat (refine aa.of ?_;conv=>whnf)
 intro b3
 conv=>whnf
 repeat (refine aa.of ?_;conv=>whnf)
 intro b5
 conv=>whnf
 repeat (refine aa.of ?_;conv=>whnf)
 refine ak.val hfm (fun w hw=>trivial) (fun v D hv=>?_)
 subst hv
 conv=>whnf
 repeat (refine aa.of ?_;conv=>whnf)
 refine aH.no (by rw[htr];rfl) ?_
 conv=>whnf
 repeat (refine aa.of ?_;conv=>whnf)
 refine ak.val hck (fun w hw=>hw.1) (fun v D hv=>?_)
 subst hv
 conv=>whnf
 repeat (refine aa.of ?_;conv=>whnf)
 refine aH.no (by rw[hz1];simp[ar]) ?_
 conv=>whnf
 repeat (refine aa.of ?_;conv=>whnf)
 refine ak.pure hop2 (fun w hw=>hw) (fun v D hv=>?_)
 obtain⟨h2,kb,q1,q2,q3,q4,rfl,hok⟩:=hv
 conv=>whnf
 repeat (refine aa.of ?_;conv=>whnf)
 intro b9
 conv=>whnf
 repeat (refine aa.of ?_;conv=>whnf)
 by_cases he:e=0
 rotate_left
 · refine aH.yes (by simp[ar];omega) ?_
   conv=>whnf
   repeat (refine aa.of ?_;conv=>whnf)
   refine⟨_,aq.refl _,?_⟩
   dsimp only
   rw[if_neg he]
   rfl
 obtain⟨rfl,rfl,rfl,rfl,ho1,ho2,rfl⟩:=hok he
 have hnl:=hrl he
 refine aH.no (by rw[he];simp[ar]) ?_
 conv=>whnf
 repeat (refine aa.of ?_;conv=>whnf)
 refine aI.draw ab mixed rfl rfl ?_
 conv=>whnf
 repeat' (first
  | (refine And.intro ?_ ?_<;>conv=>whnf)
  | (refine ax.same rfl ?_;conv=>whnf)
  | (refine ax.row rfl ?_;conv=>whnf)
  | (refine ax.call rfl ?_;conv=>whnf)
  | (refine bG.of ?_;conv=>whnf)
  | (refine aa.of ?_;conv=>whnf)
  | (refine aj.build ab (t:=23) rfl rfl rfl [] rfl rfl (by simp) (by decide) fun b1=>?_;conv=>whnf)
  | (refine aj.c_ (F':=⟨fun w=>By w h2 next∧By w kb rd,[]⟩) (aq.of_le ⟨by simp[Fx.and],fun w hw=>hw.2⟩) ?_;refine aj.eQ ab (t:=23) (xt:=23) rfl rfl rfl rfl rfl rfl rfl rfl (l:=next) (.fact fun w hw=>hw.1) (by omega) (by omega) fun b2 c2 Z2 hc2 hZ2=>?_;conv=>whnf)
  | (refine ax.mk ?_ ?_;(focus (first | exact aq.refl _ | exact aq.left _ _ | exact aq.of_le ⟨List.sublist_append_left _ _,fun w h=>h⟩ | exact aq.of_le ⟨List.Sublist.refl _,fun w h=>h.1⟩));conv=>whnf))
 all_goals
  refine⟨⟨fun w=>By w ⟨some ⟨b2,0,none⟩,c2⟩ next∧By w kb rd,[]⟩,?_,?_⟩
  · refine aq.trans (G:=⟨fun w=>By w kb rd,[(b2,Row.c (next.map ao++Z2))]⟩) (aq.of_le ⟨by simp[Fx.and],fun w hw=>hw.2⟩) ?_
    exact aq.nE.trans (aq.imp fun w hw=>⟨hw.2,hw.1⟩)
  dsimp only
  rw[if_pos he]
  exact⟨⟨some ⟨b2,0,none⟩,c2⟩,kb,rfl,⟨fun h=>(by cases h),hc2⟩,ho2,rfl⟩
theorem Ar (d:List UInt8) (h:Hd) (hh:h.Ok d.length) (hl:d.length≤1000000) (op node at0 n:Int) (k:Hd) (data:List UInt8) (hk:k.Ok data.length) (hat:at0≤9223372036854775807) :
 af Tryz.prog 11 [h.v d.length,.agg ⟨dD op node at0 n k data.length⟩] (fun w=>By w h d∧By w k data) (kB (ya d op node at0 n data)):=by
 by_cases hF:fC op node at0 n data.length
 rotate_left
 · have hfm:=gH op node at0 n k data.length
   rw[decide_eq_false hF] at hfm
   unfold ya
   rw[if_pos hF]
   refine af.aF ab Tryz.func11 rfl (by decide) (n:=Tryz.f11.ntmps - 2) rfl rfl fun w0 av=>?_
   conv=>whnf
   repeat (refine aa.of ?_;conv=>whnf)
   intro b3
   conv=>whnf
   repeat (refine aa.of ?_;conv=>whnf)
   intro b5
   conv=>whnf
   repeat (refine aa.of ?_;conv=>whnf)
   refine ak.val hfm (fun w hw=>trivial) (fun v D hv=>?_)
   subst hv
   conv=>whnf
   repeat (refine aa.of ?_;conv=>whnf)
   exact⟨_,aq.refl _,rfl⟩
 by_cases h38:aM d=0
 rotate_left
 · have hfm:=gH op node at0 n k data.length
   rw[decide_eq_true hF] at hfm
   have hck:=eN d h hh hl
   obtain⟨tr,htr⟩ : ∃ tr,tr=true:=⟨_,rfl⟩
   rw[← htr] at hfm
   have hR : ∀ F,kB (ya d op node at0 n data) (.tuple #[.slice none 0 0,uu,.int .i64 (aM d:Int)]) F:=fun F=>by
    unfold ya
    rw[if_neg (fun h=>h hF),if_pos h38]
    exact tS h38 rfl
   generalize ya d op node at0 n data=R at *
   generalize aM d=ce at *
   refine af.aF ab Tryz.func11 rfl (by decide) (n:=Tryz.f11.ntmps - 2) rfl rfl fun w0 av=>?_
   conv=>whnf
   repeat (refine aa.of ?_;conv=>whnf)
   intro b3
   conv=>whnf
   repeat (refine aa.of ?_;conv=>whnf)
   intro b5
   conv=>whnf
   repeat (refine aa.of ?_;conv=>whnf)
   refine ak.val hfm (fun w hw=>trivial) (fun v D hv=>?_)
   subst hv
   conv=>whnf
   repeat (refine aa.of ?_;conv=>whnf)
   refine aH.no (by rw[htr];rfl) ?_
   conv=>whnf
   repeat (refine aa.of ?_;conv=>whnf)
   refine ak.val hck (fun w hw=>hw.1) (fun v D hv=>?_)
   subst hv
   conv=>whnf
   repeat (refine aa.of ?_;conv=>whnf)
   refine aH.yes (by simp[ar];omega) ?_
   conv=>whnf
   repeat (refine aa.of ?_;conv=>whnf)
   exact⟨_,aq.refl _,hR _⟩
 have hlen:=fun on=>wm (d:=d) (on:=on) (node:=node) (at0:=at0) (n:=n) (data:=data) h38
 unfold ya
 rw[if_neg (fun h=>h hF),if_neg (by rw[h38];simp)]
 have hF':=hF
 unfold fC at hF
 rcases hF with⟨rfl,c1,c2,c3,c4,c5⟩ | ⟨rfl,c1,c2,c3,c4,c5,c6⟩ | ⟨rfl,c1,c2,c3,c4,c5⟩ | ⟨c0,c1,c2,c3,c4⟩
 · exact jF d h hh hl 1 node at0 n k data h38 hF' _ (z_ d h hh hl h38 _ node at0 n k data (by omega) rfl at0.toNat (by omega) (by omega)) (hlen _)
 · exact jF d h hh hl 2 node at0 n k data h38 hF' _ ((Au d h hh hl h38 _ node at0 n k data rfl node.toNat at0.toNat n.toNat (by omega) (by omega) (by omega) (by omega) (by omega))) (hlen _)
 · exact jF d h hh hl 3 node at0 n k data h38 hF' _ (Ap d h hh hl h38 _ node at0 n k data hk (by omega) rfl node.toNat (by omega) ⟨c3,hat⟩) (hlen _)
 · rcases c0 with rfl | rfl | rfl
   · exact jF d h hh hl 4 node at0 n k data h38 hF' _ (AP d h hh hl _ node at0 n k data (by omega) rfl) (hlen _)
   · exact jF d h hh hl 5 node at0 n k data h38 hF' _ (z6 d h hh hl _ node at0 n k data (by omega) rfl) (hlen _)
   · exact jF d h hh hl 6 node at0 n k data h38 hF' _ (AB d h hh hl _ node at0 n k data (by omega) rfl) (hlen _)
theorem DM {d:List UInt8} {x:Fl} (h:(wu d x).2=0):aM (wu d x).1=0:=by
 unfold wu at h ⊢
 by_cases he:(bE d x.path (if x.dir=true then 2 else 1)).2.2≠0
 · rw[if_pos he] at h
   exact absurd h he
 rw[if_neg he] at h ⊢
 obtain⟨-,-,names,at0,k,-,-,-,-,-,M⟩:=n_ (show(bE d x.path (if x.dir=true then 2 else 1)).2.2=0 by omega)
 by_cases hd:x.dir=true
 · rw[if_pos hd] at h ⊢
   exact M.ok
 rw[if_neg hd] at h ⊢
 rw[if_neg hd] at M h ⊢
 by_cases hw:(bQ (bE d x.path 1).2.1 (bE d x.path 1).1 x.data).2≠0
 · rw[if_pos hw] at h
   exact absurd h hw
 rw[if_neg hw] at h ⊢
 have hk:=M.kd
 have hk:rk (bE d x.path 1).2.1 (bE d x.path 1).1=1:=hk
 have hg:a7 (bE d x.path 1).2.1 (bE d x.path 1).1=0:=(di (bx M.ok).1).2 ⟨M.n32,by rw[hk];decide⟩
 exact wS M.ok hg hk (by omega)
theorem sZ : ∀ {l:List Fl} {d:List UInt8},aM d=0→(dT d l).2=0→aM (dT d l).1=0
 | [],d,h,_=>h
 | x::l,d,h,he=>by
  unfold dT at he ⊢
  by_cases hx:(wu d x).2≠0
  · rw[if_pos hx] at he
    exact absurd he hx
  rw[if_neg hx] at he ⊢
  exact sZ (DM (by omega)) he
def Eu (v:Value) (F:Fx):Prop:=∃ (d:List UInt8) (h:Hd),aM d=0∧d.length=12288∧v=h.v d.length∧h.Ok d.length∧F=⟨fun w=>By w h d,[]⟩
theorem Ed {d:List UInt8} (h:aM d=0):d.length=12288:=(bl (bx h).1).1
theorem wV (l:List Fl) (k:Hd) (hk:k.Ok l.length) (hl:l.length≤8) (hx : ∀ x∈l,x.path.length≤200∧x.data.length≤1000000∧x.h.Ok x.data.length) :
 af Tryz.prog 9 [k.v l.length] (fun w=>eC w k.a l) Eu:=by
 refine af.aF ab Tryz.func9 rfl (by decide) (n:=Tryz.f9.ntmps - 1) rfl rfl fun w0 av=>?_
 conv=>whnf
 repeat (refine aa.of ?_;conv=>whnf)
 have hf0:aM iY=0:=(wP pL).1
 have hfm:=fun(L:List Fl)=>sZ (l:=L) hf0
 have hms:=fun(L:List Fl)=>uq L
 have hfs:=nw
 refine ak.pure hfs (fun w hw=>trivial) (fun v D hv=>?_)
 obtain⟨h0,rfl,hh0,rfl⟩:=hv
 generalize iY=fd at *
 conv=>whnf
 repeat (refine aa.of ?_;conv=>whnf)
 refine aI.loop ab (ι:=Nat×List UInt8×Hd×Hd×List Fl) ([3,4,5,6,7,8]++List.range' 10 28) (fun x=>x.1≤l.length∧aM x.2.1=0∧x.2.2.1.Ok x.2.1.length∧x.2.2.2.1.Ok x.2.2.2.2.length∧x.2.2.2.2.length≤x.1∧∀ y∈x.2.2.2.2,y∈l)
  (fun x=>[(3,.v (x.2.2.1.v x.2.1.length)),(4,.v (x.2.2.2.1.v x.2.2.2.2.length)),(5,.v (.int .i64 (x.1:Int)))]) (fun _=>[]) (fun x=>⟨fun w=>eC w k.a l∧By w x.2.2.1 x.2.1∧aB w x.2.2.2.1.a (dN x.2.2.2.2),[]⟩)
  (fun x=>l.length - x.1) (0,fd,h0,Hd.nil,[]) ⟨Nat.zero_le _,hf0,hh0,Hd.dq,Nat.le_refl _,by simp⟩ ?_ rfl (aq.of_le ⟨by simp[Fx.and],fun w hw=>⟨hw.1,hw.2,aB.xO⟩⟩) fun x hx'=>?_
 · conv=>whnf
   repeat (first | exact aw.nil | refine aw.any ?_ | refine aw.cons ?_)
 obtain⟨i,d,h,k4,L⟩:=x
 obtain⟨hi,mf,hh,hk4,hLi,hLl⟩:=hx'
 dsimp only at hi mf hh hk4 hLi hLl ⊢
 conv=>whnf
 repeat (refine aa.of ?_;conv=>whnf)
 refine aH.split (fun hlt=>?_) (fun hlt=>?_)
 · have hlt':i<l.length:=by
    simp[au] at hlt
    omega
   have hcg:=nF hlt'
   have hone:=zp l[i]
   have hcl:(xZ l[i]).length=3:=rfl
   have hm:l[i]∈l:=List.getElem_mem hlt'
   have hfl : ∀ x,dN (L ++ [x])=dN L++xZ x:=fun x=>by
    unfold dN
    rw[List.flatMap_append,List.flatMap_singleton]
   have hoL : ∀ v∈dN L,aO v=true:=fun v hv=>by
    obtain⟨x,_,hx⟩:=List.mem_flatMap.1 hv
    exact zp x v hx
   have hLn:=Ch L
   have hfm':=hfm (L ++ [l[i]])
   have hms':=hms (L ++ [l[i]])
   have hx' : ∀ x∈L ++ [l[i]],x∈l:=fun x hx=>by
    rcases List.mem_append.1 hx with h | h
    · exact hLl x h
    · rw[List.mem_singleton.1 h]
      exact hm
   have hfl:=hfl l[i]
   have hL1:(L ++ [l[i]]).length=L.length+1:=by simp
   generalize hy:xZ l[i]=y at *
   generalize L ++ [l[i]]=L' at *
   conv=>whnf
   repeat (refine aa.of ?_;conv=>whnf)
   rcases Nat.eq_zero_or_pos L.length with hL0 | hL0
   · have hCL:dN L = []:=by rw[List.eq_nil_of_length_eq_zero hL0];rfl
     refine aI.draw ab mixed rfl rfl ?_
     conv=>whnf
     repeat' (first
      | (refine And.intro ?_ ?_<;>conv=>whnf)
      | (refine ax.same rfl ?_;conv=>whnf)
      | (refine ax.row rfl ?_;conv=>whnf)
      | (refine ax.call rfl ?_;conv=>whnf)
      | (refine bG.of ?_;conv=>whnf)
      | (refine aa.of ?_;conv=>whnf)
      | (refine ai.index ab (t:=22) rfl rfl rfl (by omega) (by omega) hk.nil fun ad had=>?_;conv=>whnf)
      | (refine ai.kC ab (t:=58) rfl rfl (ad:=ad) (k:=i*3) (L:=dN l) (m:=y) (.fact fun w hw=>by rw[← had];exact hw.1.1) (by simp) hcg hcl ?_;conv=>whnf)
      | (refine aj.build ab (t:=22) rfl rfl rfl [] rfl rfl (by simp) (by decide) fun b0=>?_;conv=>whnf)
      | (refine aj.build ab (t:=22) rfl rfl rfl [.agg ⟨y⟩] rfl rfl (by simp[Value.cells,hcl]) (by decide) fun b1=>?_;conv=>whnf)
      | (refine aj.pW ab (t:=22) (xt:=22) rfl rfl rfl rfl rfl (Nat.le_refl _) hL0 (.fact fun w hw=>by have:=hw.2.2;rw[hCL] at this;exact this) ?_;conv=>whnf)
      | (refine aj.c_ (F':=⟨fun w=>eC w k.a l∧By w h d∧aB w k4.a (dN L),[]++aR (some ⟨b0,0,none⟩) [] ++ [(b1,Row.c y)]⟩) (aq.of_le ⟨?_,fun w hw=>hw⟩) ?_;(focus (simp[aR,Value.cells];done));refine aj.append ab (t:=22) (xt:=22) rfl rfl rfl rfl rfl rfl (r1:=[]) (r2:=[(b1,Row.c y)]) (M:=y) (Go.Sx.Own.full (n:=0) rfl) (bp.row (by simp)) hcl hone (by omega) (by simp<;>omega) fun a2 c2 C2 hO2=>?_;conv=>whnf)
      | (refine aj.c_ (F':=⟨fun w=>eC w k.a l∧By w h d∧aB w k4.a (dN L),[(b1,Row.c y)]++aR (some ⟨b0,0,none⟩) [] ++ []⟩) (aq.of_le ⟨?_,fun w hw=>hw⟩) ?_;(focus (simp[aR,Value.cells];done));refine aj.append ab (t:=22) (xt:=22) rfl rfl rfl rfl rfl rfl (r1:=[(b1,Row.c y)]) (r2:=[]) (M:=y) (Go.Sx.Own.full (n:=0) rfl) (bp.row (by simp)) hcl hone (by omega) (by simp<;>omega) fun a2 c2 C2 hO2=>?_;conv=>whnf)
      | (refine ax.mk ?_ ?_;(focus (first | exact aq.refl _ | exact aq.left _ _ | exact aq.of_le ⟨List.sublist_append_left _ _,fun w h=>h⟩ | exact aq.of_le ⟨List.Sublist.refl _,fun w h=>h.1⟩));conv=>whnf))
     all_goals (
      have hO:Go.Sx.Own 3 L'.length a2 c2 C2 (dN L'):=by
       have h5:=hO2
       rw[List.nil_append] at h5
       rw[hfl,show L'.length=0+1 by omega]
       rw[hCL,List.nil_append]
       exact h5
      have hk':(⟨a2,c2⟩:Hd).Ok L'.length:=⟨fun ha=>hO.e6 ha,hO.fit⟩
      have hm2:=hms' ⟨a2,c2⟩ hk' (by omega) (fun x hxm=>hx x (hx' x hxm))
      rw[show(⟨a2,c2⟩:Hd).v L'.length = .slice a2 (0+1) c2 by rw[show L'.length=0+1 by omega]] at hm2
      refine ak.c_ (F':=⟨fun w=>(eC w k.a l∧By w h d∧aB w k4.a (dN L))∧aB w a2 (dN L'),[]⟩) (by
       first
       | exact(Go.Sx.Own.share hO (r1:=[]) (r2:=[(b1,Row.c y)])).trans (aq.bare fun w hw=>hw)
       | exact(Go.Sx.Own.share hO (r1:=[(b1,Row.c y)]) (r2:=[])).trans (aq.bare fun w hw=>hw)) ?_
      generalize (dT fd L').1=d' at *
      generalize (dT fd L').2=e' at *
      refine ak.pure hm2 (fun w hw=>⟨hw.2,fun x hxm=>hw.1.1.2 x (hx' x hxm)⟩) (fun v D hv=>?_)
      obtain⟨k5,rfl,hk5,rfl⟩:=hv
      conv=>whnf
      repeat (refine aa.of ?_;conv=>whnf)
      refine aH.split (fun he=>?_) (fun he=>?_)
      · have he0:e'=0:=by
         simp[aD] at he
         omega
        conv=>whnf
        repeat (refine aa.of ?_;conv=>whnf)
        refine⟨(i+1,d',k5,⟨a2,c2⟩,L'),⟨⟨hlt',hfm' he0,hk5,hk',by dsimp only;omega,hx'⟩,by dsimp only;omega⟩,?_,?_,?_⟩
        · conv=>whnf
          refine⟨?_,rfl⟩
          repeat (first | exact aw.nil | refine aw.any ?_ | refine aw.cons ?_ | refine aw.eq (by rw[wrap_i64 (by omega)];rfl) ?_ | refine aw.eq ((by rw[show L'.length=0+1 by omega])) ?_)
        · conv=>whnf
          exact trivial
        · exact aq.of_le ⟨by simp[Fx.and],fun w hw=>⟨hw.1.1.1,hw.2,hw.1.2⟩⟩
      · conv=>whnf
        repeat (refine aa.of ?_;conv=>whnf)
        refine⟨(i+1,d,h,k4,L),⟨⟨hlt',mf,hh,hk4,by dsimp only;omega,hLl⟩,by dsimp only;omega⟩,?_,?_,?_⟩
        · conv=>whnf
          refine⟨?_,rfl⟩
          repeat (first | exact aw.nil | refine aw.any ?_ | refine aw.cons ?_ | refine aw.eq (by rw[wrap_i64 (by omega)];rfl) ?_)
        · conv=>whnf
          exact trivial
        · exact aq.of_le ⟨by simp[Fx.and],fun w hw=>hw.1.1⟩)
   · refine aI.draw ab mixed rfl rfl ?_
     conv=>whnf
     repeat' (first
      | (refine And.intro ?_ ?_<;>conv=>whnf)
      | (refine ax.same rfl ?_;conv=>whnf)
      | (refine ax.row rfl ?_;conv=>whnf)
      | (refine ax.call rfl ?_;conv=>whnf)
      | (refine bG.of ?_;conv=>whnf)
      | (refine aa.of ?_;conv=>whnf)
      | (refine ai.index ab (t:=22) rfl rfl rfl (by omega) (by omega) hk.nil fun ad had=>?_;conv=>whnf)
      | (refine ai.kC ab (t:=58) rfl rfl (ad:=ad) (k:=i*3) (L:=dN l) (m:=y) (.fact fun w hw=>by rw[← had];exact hw.1.1) (by simp) hcg hcl ?_;conv=>whnf)
      | (refine aj.build ab (t:=22) rfl rfl rfl [] rfl rfl (by simp) (by decide) fun b0=>?_;conv=>whnf)
      | (refine aj.build ab (t:=22) rfl rfl rfl [.agg ⟨y⟩] rfl rfl (by simp[Value.cells,hcl]) (by decide) fun b1=>?_;conv=>whnf)
      | (refine aj.c_ (F':=⟨fun w=>eC w k.a l∧By w h d∧aB w k4.a (dN L),[]++aR (some ⟨b2,0,none⟩) C1 ++ [(b1,Row.c y)]⟩) (aq.of_le ⟨?_,fun w hw=>hw⟩) ?_;(focus (simp[aR,Value.cells];done));refine aj.append ab (t:=22) (xt:=22) rfl rfl rfl rfl rfl rfl (r1:=[]) (r2:=[(b1,Row.c y)]) (M:=y) hO1 (bp.row (by simp)) hcl hone (by omega) (by simp<;>omega) fun a2 c2 C2 hO2=>?_;conv=>whnf)
      | (refine aj.c_ (F':=⟨fun w=>eC w k.a l∧By w h d∧aB w k4.a (dN L),[(b1,Row.c y)]++aR (some ⟨b2,0,none⟩) C1 ++ []⟩) (aq.of_le ⟨?_,fun w hw=>hw⟩) ?_;(focus (simp[aR,Value.cells];done));refine aj.append ab (t:=22) (xt:=22) rfl rfl rfl rfl rfl rfl (r1:=[(b1,Row.c y)]) (r2:=[]) (M:=y) hO1 (bp.row (by simp)) hcl hone (by omega) (by simp<;>omega) fun a2 c2 C2 hO2=>?_;conv=>whnf)
      | (refine aj.lK ab (t:=22) (xt:=22) rfl rfl rfl rfl rfl rfl (L:=[]) (M:=dN L) (n:=0) (bp.row (by simp)) rfl (.fact fun w hw=>hw.2.2) hLn (by omega) (by omega) (by simp;omega) fun b2 c1 C1 hO1=>?_;conv=>whnf)
      | (refine ax.mk ?_ ?_;(focus (first | exact aq.refl _ | exact aq.left _ _ | exact aq.of_le ⟨List.sublist_append_left _ _,fun w h=>h⟩ | exact aq.of_le ⟨List.Sublist.refl _,fun w h=>h.1⟩));conv=>whnf))
     all_goals (
      have hO:Go.Sx.Own 3 L'.length a2 c2 C2 (dN L'):=by
       have h5:=hO2
       rw[List.nil_append] at h5
       rw[hfl,show L'.length=0+L.length+1 by omega]
       exact h5
      have hk':(⟨a2,c2⟩:Hd).Ok L'.length:=⟨fun ha=>hO.e6 ha,hO.fit⟩
      have hm2:=hms' ⟨a2,c2⟩ hk' (by omega) (fun x hxm=>hx x (hx' x hxm))
      rw[show(⟨a2,c2⟩:Hd).v L'.length = .slice a2 (0+L.length+1) c2 by rw[show L'.length=0+L.length+1 by omega]] at hm2
      refine ak.c_ (F':=⟨fun w=>(eC w k.a l∧By w h d∧aB w k4.a (dN L))∧aB w a2 (dN L'),[]⟩) (by
       first
       | exact(Go.Sx.Own.share hO (r1:=[]) (r2:=[(b1,Row.c y)])).trans (aq.bare fun w hw=>hw)
       | exact(Go.Sx.Own.share hO (r1:=[(b1,Row.c y)]) (r2:=[])).trans (aq.bare fun w hw=>hw)) ?_
      generalize (dT fd L').1=d' at *
      generalize (dT fd L').2=e' at *
      refine ak.pure hm2 (fun w hw=>⟨hw.2,fun x hxm=>hw.1.1.2 x (hx' x hxm)⟩) (fun v D hv=>?_)
      obtain⟨k5,rfl,hk5,rfl⟩:=hv
      conv=>whnf
      repeat (refine aa.of ?_;conv=>whnf)
      refine aH.split (fun he=>?_) (fun he=>?_)
      · have he0:e'=0:=by
         simp[aD] at he
         omega
        conv=>whnf
        repeat (refine aa.of ?_;conv=>whnf)
        refine⟨(i+1,d',k5,⟨a2,c2⟩,L'),⟨⟨hlt',hfm' he0,hk5,hk',by dsimp only;omega,hx'⟩,by dsimp only;omega⟩,?_,?_,?_⟩
        · conv=>whnf
          refine⟨?_,rfl⟩
          repeat (first | exact aw.nil | refine aw.any ?_ | refine aw.cons ?_ | refine aw.eq (by rw[wrap_i64 (by omega)];rfl) ?_ | refine aw.eq ((by rw[show L'.length=0+L.length+1 by omega])) ?_)
        · conv=>whnf
          exact trivial
        · exact aq.of_le ⟨by simp[Fx.and],fun w hw=>⟨hw.1.1.1,hw.2,hw.1.2⟩⟩
      · conv=>whnf
        repeat (refine aa.of ?_;conv=>whnf)
        refine⟨(i+1,d,h,k4,L),⟨⟨hlt',mf,hh,hk4,by dsimp only;omega,hLl⟩,by dsimp only;omega⟩,?_,?_,?_⟩
        · conv=>whnf
          refine⟨?_,rfl⟩
          repeat (first | exact aw.nil | refine aw.any ?_ | refine aw.cons ?_ | refine aw.eq (by rw[wrap_i64 (by omega)];rfl) ?_)
        · conv=>whnf
          exact trivial
        · exact aq.of_le ⟨by simp[Fx.and],fun w hw=>hw.1.1⟩)
 · have hie:True:=trivial
   conv=>whnf
   repeat (refine aa.of ?_;conv=>whnf)
   exact⟨⟨fun w=>By w h d,[]⟩,aq.of_le ⟨by simp,fun w hw=>hw.2.1⟩,d,h,mf,Ed mf,rfl,hh,rfl⟩
def k6:List UInt8:=[104,101,108,108,111]
theorem u9 (h0:Hd) : ∃ d2,dT iY [⟨[47,97],false,h0,k6⟩]=(d2,0)∧d2.length=12288∧aM d2=0∧cA d2 [47,97]=(1,0)∧a7 d2 1=0∧rk d2 1=1∧ay d2 1=k6:=by
 obtain⟨d1,d2,hm,hwr,hl1,hl2,hc,hwk,hg,hk,hcon⟩:=CE (wP pL)
 have e:wu iY ⟨[47,97],false,h0,k6⟩=(d2,0):=by
  unfold wu
  dsimp only
  rw[if_neg (show ¬ false=true by decide),hm]
  dsimp only
  rw[if_neg (by decide),if_neg (by decide),show k6 = [104,101,108,108,111] from rfl,hwr]
  dsimp only
  rw[if_neg (by decide)]
 refine⟨d2,?_,hl2,hc,hwk,hg,hk,hcon⟩
 unfold dT
 rw[e]
 dsimp only
 rw[if_neg (by decide)]
 rfl
theorem xX:af Tryz.prog 6 [] (fun _=>True) (fun v F=>v = .bool true):=by
 refine af.aF ab Tryz.func6 rfl (by decide) (n:=Tryz.f6.ntmps - 0) rfl rfl fun w0 av=>?_
 conv=>whnf
 repeat (refine aa.of ?_;conv=>whnf)
 refine aj.build ab (t:=23) rfl rfl rfl (k6.map ao) rfl rfl (by simp[k6,Value.cells,ao]) (by decide) fun b1=>?_
 conv=>whnf
 repeat (refine aa.of ?_;conv=>whnf)
 refine aj.lit ab (t:=23) rfl rfl rfl rfl (r1:=[]) (r2:=[]) (C:=k6.map ao) ?_
 conv=>whnf
 repeat (refine aa.of ?_;conv=>whnf)
 obtain⟨d2,hfm,hl2,hc,hwk,hg,hk,hcon⟩:=u9 ⟨some ⟨b1,0,none⟩,5⟩
 refine aj.build ab (t:=46) rfl rfl rfl [.agg ⟨xZ ⟨[47,97],false,⟨some ⟨b1,0,none⟩,5⟩,k6⟩⟩] rfl rfl (by simp[xZ,Value.cells]) (by decide) fun b2=>?_
 conv=>whnf
 repeat (refine aa.of ?_;conv=>whnf)
 have hms:=rB [⟨[47,97],false,⟨some ⟨b1,0,none⟩,5⟩,k6⟩] ⟨some ⟨b2,0,none⟩,1⟩ ⟨by simp,by simp⟩ (by simp) (by
  intro x hx
  simp only[List.mem_singleton] at hx
  subst hx
  exact⟨by simp,by simp[k6],by simp,by simp[k6]⟩)
 rw[hfm] at hms
 clear hfm
 obtain⟨z0,hz0⟩ : ∃ z:Nat,z=0:=⟨_,rfl⟩
 rw[show((d2,0):List UInt8×Nat).2=z0 from hz0.symm] at hms
 refine ak.c_ (aq.share1 (rs:=[])) ?_
 refine ak.pure hms (fun w hw=>?_) (fun v D hv=>?_)
 · refine⟨hw.2,fun x hx=>?_⟩
   simp only[List.mem_singleton] at hx
   subst hx
   exact hw.1.2
 obtain⟨h2,rfl,hh2,rfl⟩:=hv
 dsimp only
 conv=>whnf
 repeat (refine aa.of ?_;conv=>whnf)
 refine aj.build ab (t:=23) rfl rfl rfl (([47,97]:List UInt8).map ao) rfl rfl (by simp[Value.cells,ao]) (by decide) fun b3=>?_
 conv=>whnf
 repeat (refine aa.of ?_;conv=>whnf)
 refine aj.lit ab (t:=23) rfl rfl rfl rfl (r1:=[]) (r2:=[]) (C:=([47,97]:List UInt8).map ao) ?_
 conv=>whnf
 repeat (refine aa.of ?_;conv=>whnf)
 obtain⟨m1,hm1⟩ : ∃ z:Nat,z=1:=⟨_,rfl⟩
 obtain⟨k1,hk1⟩ : ∃ z:Int,z=1:=⟨_,rfl⟩
 obtain⟨z1,hz1⟩ : ∃ z:Int,z=0:=⟨_,rfl⟩
 obtain⟨z2,hz2⟩ : ∃ z:Int,z=0:=⟨_,rfl⟩
 have hd1:af Tryz.prog 10 [h2.v d2.length,.agg ⟨dD ((1:Nat):Int) 0 0 0 ⟨some ⟨b3,0,none⟩,2⟩ 2⟩] (fun w=>By w h2 d2∧By w ⟨some ⟨b3,0,none⟩,2⟩ [47,97]) (fun v F=>∃ h2:Hd,v = .tuple #[h2.v d2.length,.agg ⟨[.int .i64 (m1:Int),.int .i64 k1,.slice none 0 0]⟩,.int .i64 z1]):=by
  subst hm1 hk1 hz1
  exact Bl d2 h2 hh2 hl2 1 0 0 0 ⟨some ⟨b3,0,none⟩,2⟩ [47,97] ⟨by simp,by simp⟩ (by simp) rfl rfl rfl rfl hc 1 hwk hg hk
 have hd2:af Tryz.prog 10 [h2.v d2.length,.agg ⟨dD ((2:Nat):Int) 1 1 3 Hd.nil 0⟩] (fun w=>By w h2 d2) (fun v F=>∃ h5 kb:Hd,v = .tuple #[h5.v d2.length,.agg ⟨[.int .i64 3,.int .i64 0,kb.v [101,108,108].length]⟩,.int .i64 z2]∧
  kb.Ok 3∧∃ rs,F=⟨fun w=>By w h2 d2∧By w kb [101,108,108],rs⟩):=by
  subst hz2
  have:=BN d2 h2 hh2 hl2 2 1 1 3 1 1 3 rfl rfl rfl Hd.nil rfl (by decide) (by decide) (by decide) hc hg hk
  rw[hcon] at this
  refine this.weaken ?_
  rintro v F ⟨h3,kb,hv,hkb,rs,hF⟩
  exact⟨F,aq.refl _,h3,kb,hv,hkb,rs,hF⟩
 clear hwk hg hk hcon hc hms
 refine ak.pure hd1 (fun w hw=>⟨hw.1.2,hw.2⟩) (fun v D hv=>?_)
 obtain⟨h3,rfl⟩:=hv
 conv=>whnf
 repeat (refine aa.of ?_;conv=>whnf)
 intro b4
 conv=>whnf
 repeat (refine aa.of ?_;conv=>whnf)
 refine ak.pure hd2 (fun w hw=>hw.1.1.2) (fun v D2 hv=>?_)
 obtain⟨h4,kb,rfl,hkb,rs,rfl⟩:=hv
 conv=>whnf
 repeat (refine aa.of ?_;conv=>whnf)
 intro b5
 conv=>whnf
 repeat (refine aa.of ?_;conv=>whnf)
 generalize hq:(cN (z0:Int) 0&&cN z1 0&&cN z2 0&&cN (m1:Int) 1&&cN k1 1)=q
 have eq:q=true:=by rw[← hq,hz0,hz1,hz2,hm1,hk1];simp[aD]
 clear hq
 subst eq
 conv=>whnf
 repeat (refine aa.of ?_;conv=>whnf)
 refine aj.ah (ai.bytes ab (t:=23) (u:=9) rfl rfl rfl rfl rfl rfl (l:=[101,108,108]) (.fact fun w hw=>hw.2.2) rfl ?_)
 conv=>whnf
 repeat (refine aa.of ?_;conv=>whnf)
 refine aj.ah (ai.fL (l:=[101,108,108]) (m:=[101,108,108]) ?_)
 conv=>whnf
 repeat (refine aa.of ?_;conv=>whnf)
 exact⟨_,aq.refl _,rfl⟩
theorem CJ {l:List Fl} (h:xN l=true):l.length≤8∧∀ x∈l,x.path.length≤100∧x.data.length≤400:=by
 unfold xN at h
 rw[Bool.and_eq_true,List.all_eq_true,decide_eq_true_eq] at h
 exact⟨h.2,fun x hx=>by simpa using h.1 x hx⟩
def Et (r:Rs) (v:Value) (F:Fx):Prop:=∃ h2 kb:Hd,v = .tuple #[h2.v r.next.length,.agg ⟨[.int .i64 r.val,.int .i64 r.kind,kb.v r.data.length]⟩,.int .i64 (r.e:Int)]∧h2.Ok r.next.length∧kb.Ok r.data.length∧F=⟨fun w=>By w h2 r.next∧By w kb r.data,[]⟩
noncomputable def BI (r:Rs):Rs:=if r.e=0 then r else .err r.e
theorem za {f:FuncId} {vs:List Value} {Pre:World→Prop} {r:Rs} (h:af Tryz.prog f vs Pre (kB r)):af Tryz.prog f vs Pre (Et (BI r)):=by
 refine h.weaken fun v F hv=>?_
 unfold kB at hv
 unfold BI
 by_cases he:r.e=0
 · rw[if_pos he] at hv ⊢
   obtain⟨h2,kb,rfl,a1,a2,rfl⟩:=hv
   exact⟨_,aq.refl _,h2,kb,by rw[he];rfl,a1,a2,rfl⟩
 · rw[if_neg he] at hv ⊢
   subst hv
   exact⟨⟨fun w=>By w Hd.nil []∧By w Hd.nil [],[]⟩,aq.bare fun w _=>⟨By.nil w,By.nil w⟩,Hd.nil,Hd.nil,rfl,Hd.dq,Hd.dq,rfl⟩
theorem AS (val kind:Int) (k1 k2:Hd) (data:List UInt8) (h1:k1.Ok data.length) (h2:k2.Ok data.length) :
 af Tryz.prog 12 [.agg ⟨[.int .i64 val,.int .i64 kind,k1.v data.length]⟩,.agg ⟨[.int .i64 val,.int .i64 kind,k2.v data.length]⟩] (fun w=>By w k1 data∧By w k2 data) (fun v F=>v = .bool true):=by
 have e1:cN val val=true:=by simp[aD]
 have e2:cN kind kind=true:=by simp[aD]
 refine af.aF ab Tryz.func12 rfl (by decide) (n:=Tryz.f12.ntmps - 2) rfl rfl fun w0 av=>?_
 conv=>whnf
 repeat (refine aa.of ?_;conv=>whnf)
 intro b2
 conv=>whnf
 repeat (refine aa.of ?_;conv=>whnf)
 intro b3
 conv=>whnf
 repeat (refine aa.of ?_;conv=>whnf)
 rw[e1]
 conv=>whnf
 repeat (refine aa.of ?_;conv=>whnf)
 rw[e2]
 conv=>whnf
 repeat (refine aa.of ?_;conv=>whnf)
 refine aj.ah (ai.bytes ab (t:=23) (u:=9) rfl rfl rfl rfl rfl rfl (l:=data) (.fact fun w hw=>hw.1) rfl ?_)
 conv=>whnf
 repeat (refine aa.of ?_;conv=>whnf)
 refine aj.ah (ai.bytes ab (t:=23) (u:=9) rfl rfl rfl rfl rfl rfl (l:=data) (.fact fun w hw=>hw.2) rfl ?_)
 conv=>whnf
 repeat (refine aa.of ?_;conv=>whnf)
 refine aj.ah (ai.fL (l:=data) (m:=data) ?_)
 conv=>whnf
 repeat (refine aa.of ?_;conv=>whnf)
 exact⟨_,aq.refl _,by simp⟩
theorem zJ (op node at0 n:Int) (k:Hd) (len:Nat) (b c:Nat) (hc:1≤c) :
 af Tryz.prog 8 [.slice (some ⟨b,0,none⟩) 1 c] (fun w=>aB w (some ⟨b,0,none⟩) (dD op node at0 n k len)) (fun v F=>v = .bool (decide (len≤200))):=by
 obtain⟨o,ho⟩ : ∃ o:Nat,o=1:=⟨_,rfl⟩
 rw[← ho]
 refine af.aF ab Tryz.func8 rfl (by decide) (n:=Tryz.f8.ntmps - 1) rfl rfl fun w0 av=>?_
 conv=>whnf
 repeat (refine aa.of ?_;conv=>whnf)
 refine aI.loop ab (ι:=Nat) ([3]++List.range' 4 13) (fun x=>x≤1∧(x=1→len≤200)) (fun x=>[(3,.v (.int .i64 (x:Int)))])
  (fun _=>[]) (fun _=>⟨fun w=>aB w (some ⟨b,0,none⟩) (dD op node at0 n k len),[]⟩) (fun x=>1 - x) 0 ⟨by decide,fun h=>by cases h⟩ ?_ rfl (aq.refl _) fun i hi=>?_
 · conv=>whnf
   repeat (first | exact aw.nil | refine aw.any ?_ | refine aw.cons ?_)
 obtain⟨hi,hi1⟩:=hi
 conv=>whnf
 repeat (refine aa.of ?_;conv=>whnf)
 refine aH.split (fun hlt=>?_) (fun hlt=>?_)
 · have hlt':i=0:=by
    simp[au] at hlt
    omega
   subst hlt'
   conv=>whnf
   repeat (refine aa.of ?_;conv=>whnf)
   refine aj.ah (ai.index ab (t:=29) rfl rfl rfl (by omega) (by omega) (fun h=>by cases h) fun ad had=>?_)
   conv=>whnf
   repeat (refine aa.of ?_;conv=>whnf)
   refine aj.ah (ai.bS ab (t:=23) rfl rfl (ad:=ad) (k:=4) (L:=dD op node at0 n k len) (v:=k.v len) (.fact fun w hw=>had ▸ hw) (fun hs=>by rw[Addr.dE hs];congr 1) rfl ?_)
   conv=>whnf
   repeat (refine aa.of ?_;conv=>whnf)
   refine aH.split (fun hq=>?_) (fun hq=>?_)
   · have : ¬ len≤200:=by
      simp[bP] at hq
      omega
     conv=>whnf
     repeat (refine aa.of ?_;conv=>whnf)
     exact⟨_,aq.refl _,by rw[decide_eq_false this]⟩
   have:len≤200:=by
    simp[bP] at hq
    omega
   conv=>whnf
   repeat (refine aa.of ?_;conv=>whnf)
   refine⟨1,⟨⟨by decide,fun _=>this⟩,by decide⟩,?_,?_,aq.refl _⟩
   · conv=>whnf
     refine⟨?_,rfl⟩
     repeat (first | exact aw.nil | refine aw.any ?_ | refine aw.cons ?_ | refine aw.eq (by rw[wrap_i64 (by omega)];rfl) ?_)
   · conv=>whnf
     exact trivial
 · have hi1':=hi1 (by
    simp[au] at hlt
    omega)
   conv=>whnf
   repeat (refine aa.of ?_;conv=>whnf)
   refine⟨_,aq.refl _,?_⟩
   rw[decide_eq_true hi1',ho]
   simp[eU]
theorem o9 {d:List UInt8} (h:d.length≠12288):aM d=1:=by
 have:dM d=1:=by
  unfold dM
  rw[if_neg h]
 unfold aM
 rw[if_pos (by rw[this];decide),this]
theorem zO (d:List UInt8) (h:Hd) (hh:h.Ok d.length) (hl:d.length≤1000000) (hd:d.length≠12288) (op node at0 n:Int) (k:Hd) (data:List UInt8) (hk:k.Ok data.length) (hat:at0≤9223372036854775807) :
 af Tryz.prog 10 [h.v d.length,.agg ⟨dD op node at0 n k data.length⟩] (fun w=>By w h d∧By w k data) (fun v F=>v = .tuple #[.slice none 0 0,uu,.int .i64 1]):=by
 have:=s7 d h hh hl op node at0 n k data hk hat
 have hX:ya d op node at0 n data = .err 1:=by
  unfold ya
  split
  · rfl
  · rw[if_pos (by rw[o9 hd];decide),o9 hd]
 rw[hX] at this
 exact this.weaken fun v F hv=>⟨F,aq.refl _,hv⟩
theorem xw (l:List Fl) (k:Hd) (hk:k.Ok l.length) (hl:l.length≤3000000000000000000) (hx : ∀ x∈l,x.h.Ok x.data.length) (op node at0 n:Int) (kd:Hd) (data:List UInt8) (hkd:kd.Ok data.length) (hat:at0≤9223372036854775807) :
 af Tryz.prog 3 [k.v l.length,.agg ⟨dD op node at0 n kd data.length⟩] (fun w=>eC w k.a l∧By w kd data) (fun v F=>v = .bool true):=by
 have haw:=xX
 obtain⟨tr,htr⟩ : ∃ tr,tr=true:=⟨_,rfl⟩
 rw[← htr] at haw
 have hfw:=zW l k hk hl
 have hfl:=@CJ l
 generalize xN l=fw at *
 refine af.aF ab Tryz.func3 rfl (by decide) (n:=Tryz.f3.ntmps - 2) rfl rfl fun w0 av=>?_
 conv=>whnf
 repeat (refine aa.of ?_;conv=>whnf)
 intro b3
 conv=>whnf
 repeat (refine aa.of ?_;conv=>whnf)
 refine ak.val haw (fun w hw=>trivial) (fun v D hv=>?_)
 subst hv
 conv=>whnf
 repeat (refine aa.of ?_;conv=>whnf)
 refine aH.no (by rw[htr];rfl) ?_
 conv=>whnf
 repeat (refine aa.of ?_;conv=>whnf)
 refine ak.val hfw (fun w hw=>hw.1) (fun v D hv=>?_)
 subst hv
 conv=>whnf
 repeat (refine aa.of ?_;conv=>whnf)
 cases fw
 · conv=>whnf
   repeat (refine aa.of ?_;conv=>whnf)
   subst htr
   exact⟨_,aq.refl _,rfl⟩
 obtain⟨hl8,hfx⟩:=hfl rfl
 clear hfl
 have hds:=wV l k hk hl8 fun x hm=>⟨by have:=(hfx x hm).1;omega,by have:=(hfx x hm).2;omega,hx x hm⟩
 conv=>whnf
 repeat (refine aa.of ?_;conv=>whnf)
 refine aj.build ab (t:=29) rfl rfl rfl [.agg ⟨dD op node at0 n kd data.length⟩] rfl rfl (by simp[Value.cells,dD]) (by decide) fun b9=>?_
 conv=>whnf
 repeat (refine aa.of ?_;conv=>whnf)
 refine ak.c_ (F':=⟨fun w=>(eC w k.a l∧By w kd data)∧aB w (some ⟨b9,0,none⟩) (dD op node at0 n kd data.length),[]⟩) ?_ ?_
 · refine aq.trans (G:=⟨fun w=>eC w k.a l∧By w kd data,[] ++ [(b9,Row.c (dD op node at0 n kd data.length))]⟩) (aq.of_le ⟨by simp[Value.cells,dD],fun w hw=>hw⟩) aq.share1
 refine ak.val (zJ op node at0 n kd data.length b9 _ (Nat.le_refl _)) (fun w hw=>hw.2) (fun v D hv=>?_)
 by_cases hd200:data.length≤200
 rotate_left
 · rw[decide_eq_false hd200] at hv
   subst hv
   conv=>whnf
   repeat (refine aa.of ?_;conv=>whnf)
   subst htr
   exact⟨_,aq.refl _,rfl⟩
 rw[decide_eq_true hd200] at hv
 subst hv
 conv=>whnf
 repeat (refine aa.of ?_;conv=>whnf)
 refine ak.pure hds (fun w hw=>hw.1.1) (fun v D hv=>?_)
 obtain⟨d,h,h38,hd,rfl,hh,rfl⟩:=hv
 have hdl:d.length≤1000000:=by omega
 have hps:=za (s7 d h hh hdl op node at0 n kd data hkd hat)
 have hrs:=za (Ar d h hh hdl op node at0 n kd data hkd hat)
 have hcl:(cut d 1 12287).length=d.length - 1:=by
  rw[aZ (by omega)]
  omega
 have hhc:=hh.cap
 have hss:=zO (cut d 1 12287) (Hd.sub h 1) (Hd.eu (m:=d.length) hh (by rw[hcl];omega)) (by omega) (by omega) op node at0 n kd data hkd hat
 have hby : ∀ w,By w h d→By w (Hd.sub h 1) (cut d 1 12287):=fun w hw=>By.sub hw (by omega)
 have hfp:=gI op node at0 n kd data.length
 have hfr:=gH op node at0 n kd data.length
 generalize decide (fC op node at0 n data.length)=fb at *
 generalize BI (ya d op node at0 n data)=r at *
 obtain⟨nx,val,kind,rd,e⟩:=r
 unfold Et at hps hrs
 dsimp only at hps hrs
 rw[hcl] at hss
 generalize cut d 1 12287=ds at *
 conv=>whnf
 repeat (refine aa.of ?_;conv=>whnf)
 refine ak.pure hps (fun w hw=>⟨hw.2,hw.1.1.2⟩) (fun v D hv=>?_)
 obtain⟨h2,kb,rfl,hh2,hkb,rfl⟩:=hv
 conv=>whnf
 repeat (refine aa.of ?_;conv=>whnf)
 intro b7
 conv=>whnf
 repeat (refine aa.of ?_;conv=>whnf)
 refine ak.pure hrs (fun w hw=>⟨hw.1.2,hw.1.1.1.2⟩) (fun v D hv=>?_)
 obtain⟨h3,kc,rfl,hh3,hkc,rfl⟩:=hv
 conv=>whnf
 repeat (refine aa.of ?_;conv=>whnf)
 intro b10
 conv=>whnf
 repeat (refine aa.of ?_;conv=>whnf)
 have hee:cN (e:Int) e=true:=by simp[aD]
 have hbb:((fb == fb:Bool))=true:=beq_self_eq_true fb
 refine aI.draw ab mixed rfl rfl ?_
 conv=>whnf
 repeat' (first
  | (refine And.intro ?_ ?_<;>conv=>whnf)
  | (refine ax.same rfl ?_;conv=>whnf)
  | (refine ax.row rfl ?_;conv=>whnf)
  | (refine ax.call rfl ?_;conv=>whnf)
  | (refine bG.of ?_;conv=>whnf)
  | (refine aa.of ?_;conv=>whnf)
  | (intro b13;conv=>whnf)
  | (refine ai.gD ab (t:=23) rfl rfl rfl rfl 1 rfl (by omega) (by omega) ?_;conv=>whnf)
  | (refine ak.pure hss (fun w hw=>⟨hby w hw.1.1.2,hw.1.1.1.1.2⟩) (fun v D hv=>?_);subst hv;conv=>whnf)
  | (refine ax.mk ?_ ?_;(focus (first | exact aq.refl _ | exact aq.left _ _ | exact aq.of_le ⟨List.sublist_append_left _ _,fun w h=>h⟩ | exact aq.of_le ⟨List.Sublist.refl _,fun w h=>h.1⟩));conv=>whnf))
 all_goals
  refine aI.draw ab mixed rfl rfl ?_
  conv=>whnf
  repeat' (first
   | (refine And.intro ?_ ?_<;>conv=>whnf)
   | (refine ax.same rfl ?_;conv=>whnf)
   | (refine ax.row rfl ?_;conv=>whnf)
   | (refine ax.call rfl ?_;conv=>whnf)
   | (refine bG.of ?_;conv=>whnf)
   | (refine aa.of ?_;conv=>whnf)
   | (refine ai.bytes ab (t:=23) (u:=9) rfl rfl rfl rfl rfl rfl (l:=nx) (.fact fun w hw=>hw.1.1.2.1) rfl ?_;conv=>whnf)
   | (refine ai.bytes ab (t:=23) (u:=9) rfl rfl rfl rfl rfl rfl (l:=nx) (.fact fun w hw=>hw.1.2.1) rfl ?_;conv=>whnf)
   | (refine ai.fL (l:=nx) (m:=nx) ?_;rw[beq_self_eq_true];conv=>whnf)
   | (refine ak.val (AS val kind kb kc rd hkb hkc) (fun w hw=>⟨hw.1.1.2.2,hw.1.2.2⟩) (fun v D hv=>?_);subst hv;conv=>whnf)
   | (refine ak.val hfp (fun w hw=>trivial) (fun v D hv=>?_);subst hv;conv=>whnf)
   | (refine ak.val hfr (fun w hw=>trivial) (fun v D hv=>?_);subst hv;conv=>whnf)
   | (refine ax.mk ?_ ?_;(focus (first | exact aq.refl _ | exact aq.left _ _ | exact aq.of_le ⟨List.sublist_append_left _ _,fun w h=>h⟩ | exact aq.of_le ⟨List.Sublist.refl _,fun w h=>h.1⟩));conv=>whnf))
 all_goals
  rw[hee]
  conv=>whnf
  repeat (refine aa.of ?_;conv=>whnf)
  all_goals
   repeat' (first
    | (refine And.intro ?_ ?_<;>conv=>whnf)
    | (refine ax.same rfl ?_;conv=>whnf)
    | (refine ax.row rfl ?_;conv=>whnf)
    | (refine ax.call rfl ?_;conv=>whnf)
    | (refine bG.of ?_;conv=>whnf)
    | (refine aa.of ?_;conv=>whnf)
    | (refine ak.val hfp (fun w hw=>trivial) (fun v D hv=>?_);subst hv;conv=>whnf)
    | (refine ak.val hfr (fun w hw=>trivial) (fun v D hv=>?_);subst hv;conv=>whnf)
    | (refine ax.mk ?_ ?_;(focus (first | exact aq.refl _ | exact aq.left _ _ | exact aq.of_le ⟨List.sublist_append_left _ _,fun w h=>h⟩ | exact aq.of_le ⟨List.Sublist.refl _,fun w h=>h.1⟩));conv=>whnf))
 all_goals
  rw[hbb]
  conv=>whnf
  repeat (refine aa.of ?_;conv=>whnf)
 all_goals
  subst htr
  exact⟨_,aq.refl _,by simp[aD]⟩
end Go.Proofs.YtfeoedkmndkbjaaGreatDoor
