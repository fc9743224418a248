/- Parts of the proof: FaD, FcB, FcC, FcD, NyI, FaE, FcE, GaI, GaJ, GaA, GaE, GaK, GaL, GaG, FcF, FdC, FdE, NvY, GaM, GaN, GaC, GaO, GaD, GaB. -/
import Derived.Test.YtfeoedkmndkbjaaGreatDoorQM
import Derived.Test.YtfeoedkmndkbjaaGreatDoorQJ
import Derived.Test.YtfeoedkmndkbjaaGreatDoorQL
import Derived.Test.YtfeoedkmndkbjaaGreatDoorQE
import Derived.Lib.ConvBytes
import Derived.Test.YtfeoedkmndkbjaaGreatDoorQK
import Derived.Test.YtfeoedkmndkbjaaGreatDoorQI
import Derived.Test.YtfeoedkmndkbjaaGreatDoorQG
namespace Go.Proofs.YtfeoedkmndkbjaaGreatDoor
open Go Go.Sx
set_option maxRecDepth 100000
set_option maxHeartbeats 4000000
set_option linter.unusedVariables false
set_option linter.unusedSimpArgs false
theorem x_ {D:World→Prop} {b cap e:Nat} {d:List UInt8} {Z:List Value} {m:Nat} {rs:List (Nat×Row)} (hm:m=d.length) (hc:m≤cap) : ∃ F',aq ⟨D,(b,Row.c (d.map ao++Z))::rs⟩ F'∧fJ d e (.tuple #[.slice (some ⟨b,0,none⟩) m cap,.int .i64 (e:Int)]) F':=by
 obtain⟨F',h1,h2⟩:=jG (D:=D) (b:=b) (cap:=cap) (e:=e) (d:=d) (Z:=Z) hm hc
 exact⟨F',(show aq ⟨D,(b,Row.c (d.map ao++Z))::rs⟩ ⟨D,[(b,Row.c (d.map ao++Z))]⟩ from aq.of_le ⟨by simp,fun w hw=>hw⟩).trans h1,h2⟩
theorem BE {fr L:List Nat} {j:Nat} (h1:j<fr.length) (h2:j<L.length):(fr.zip L).take (j+1)=(fr.zip L).take j ++ [(fr[j],L[j])]:=by
 have:j<(fr.zip L).length:=by rw[List.length_zip];omega
 rw[List.take_succ_eq_append_getElem this,List.getElem_zip]
theorem nI : ∀ {fr L:List Nat},fr.zip L=fr.zip (L.take fr.length)
 | [],L=>by simp
 | a::fr,[]=>by simp
 | a::fr,x::L=>by
  rw[List.length_cons,List.take_succ_cons,List.zip_cons_cons,List.zip_cons_cons,nI (fr:=fr) (L:=L)]
theorem BM (d:List UInt8) {L:List Nat} {j:Nat} (h:j<L.length):vk d (L.take (j+1))=lay (vk d (L.take j)) (128*L[j]) (List.replicate 128 0):=by
 unfold vk
 rw[List.take_succ_eq_append_getElem h,List.foldl_append]
 rfl
theorem DN {b:Nat→Nat} {ps:List (Nat×Nat)} {N:Nat} (hb : ∀ j,b j≤N) (hp : ∀ p∈ps,p.2≤N) (j:Nat):kJ b ps j≤N:=by
 by_cases h : ∃ p∈ps,p.1=j
 · obtain⟨p,h1,h2⟩:=pG (b:=b) h
   rw[h2]
   exact hp p h1
 · rw[jX fun p h1 h2=>h ⟨p,h1,h2⟩]
   exact hb j
theorem nf (d:List UInt8) (h:Hd) (hh:h.Ok d.length) (hl:d.length≤1000000) (n off:Nat) (hof:off≤9223372036854775807) (offI:Int) (ho:offI=(off:Int)) (data:List UInt8) (kd:Hd) (hkd:kd.Ok data.length) (hdl:data.length≤1000000) :
 af Tryz.prog 34 [h.v d.length,.int .i64 (n:Int),.int .i64 offI,kd.v data.length] (fun w=>By w h d∧By w kd data) (fJ (cj d n off data).1 (cj d n off data).2):=by
 refine af.aF ab Tryz.func34 rfl (by decide) (n:=Tryz.f34.ntmps - 4) rfl rfl fun w0 av=>?_
 conv=>whnf
 refine ak.pure (gV d h hh hl n) (fun w hw=>hw.1) (fun v D hv=>?_)
 unfold oD at hv
 split at hv
 rotate_left
 · rename_i h0
   obtain⟨rfl,rfl⟩:=hv
   have he:a7 d n=dM d:=by
    unfold a7
    rw[if_pos h0]
   have:cj d n off data=([],dM d):=by
    unfold cj
    rw[if_pos (by rw[he];exact h0),he]
   rw[this]
   generalize dM d=e at *
   conv=>whnf
   repeat (refine aa.of ?_;conv=>whnf)
   intro b11
   conv=>whnf
   repeat (refine aa.of ?_;conv=>whnf)
   refine aH.yes (by simp[ar];omega) ?_
   conv=>whnf
   repeat (refine aa.of ?_;conv=>whnf)
   exact bN
 rename_i h0
 obtain⟨hd,hok⟩:=bl h0
 obtain⟨bd,bv,cap,Z,kb,rfl,hcap,hkb,rfl⟩:=hv
 have hge:=tg d n h0
 by_cases hg:a7 d (n:Int)=0
 rotate_left
 · have:cj d n off data=([],a7 d n):=by
    unfold cj
    rw[if_pos hg]
   rw[this]
   rw[hge]
   generalize a7 d (n:Int)=e at *
   generalize ir (bB d) (n:Int)=i
   conv=>whnf
   repeat (refine aa.of ?_;conv=>whnf)
   intro b11
   conv=>whnf
   repeat (refine aa.of ?_;conv=>whnf)
   refine aH.yes (by simp[ar];omega) ?_
   conv=>whnf
   repeat (refine aa.of ?_;conv=>whnf)
   exact bN
 obtain⟨-,-,m,hm,hn,hrk⟩:=cd hg
 obtain rfl:n=m:=by omega
 obtain⟨e1,e2⟩:=kP hn hrk
 obtain⟨e0,he0⟩ : ∃ e:Nat,e=eR (bB d) (n:Int):=⟨_,rfl⟩
 rw[← he0,e2]
 rw[e1] at he0
 have hbm:=aU hd
 obtain⟨R,hR⟩ : ∃ R,R=cj d n off data:=⟨_,rfl⟩
 rw[← hR]
 unfold cj at hR
 rw[if_neg (by omega)] at hR
 have hs2:=fT (hok.form n hn)
 have hfl:=fun x=>gr (b:=bA d) (x:=x)
 have hbl : ∀ j,j<12→rb d n j≠0→18≤rb d n j∧rb d n j<96:=fun j hj h=>⟨(bD (hok.form n hn) j hj h).1,(bD (hok.form n hn) j hj h).2.1⟩
 have hrb:=pn d n
 have hrkl:=lX d n
 have hone:=fun(e bits:List UInt8) he hb hin=>gP (d:=d) (e:=e) (bits:=bits) hok he hb hin hn
 have hsm : ∀ i:iW,i.1≤1000000∧i.2.1≤1000000∧(∀ j,i.2.2 j≤1000000)→∀ m,(fN (bB d) n i m).1≤1000000∧(fN (bB d) n i m).2.1≤1000000∧∀ j,(fN (bB d) n i m).2.2 j≤1000000:=fun i hi=>gN hi
 have hvs:=fun(k2:Value) i=>mF (.slice (some ⟨bd,0,none⟩) d.length cap) (bB d) k2 hn i
 have hvl:=fun(k2:Value)=>fh (.slice (some ⟨bd,0,none⟩) d.length cap) (bB d) k2
 have hv00 : ∀ (k2:Value),(dX (.slice (some ⟨bd,0,none⟩) d.length cap) (bB d) k2)[0]? = some (.slice (some ⟨bd,0,none⟩) d.length cap):=fun k2=>rfl
 have hok0:(⟨some ⟨bd,0,none⟩,cap⟩:Hd).Ok d.length:=⟨fun h=>(by cases h),hcap⟩
 have hvt:=fun m hm=>vx bv (.slice (some ⟨bd,0,none⟩) d.length cap) (bB d) kb (bA d) hkb hbm m hm
 unfold qg Cq at hvt
 have hwd:=fun(e:List UInt8) (he:e.length=12288) g hg (k2:Hd) hk2 bits hb=>fQ bd bv cap e Z he (by omega) g hg k2 hk2 bits hb
 have hclb:=fun l (hl : ∀ x∈l,x<96)=>uD (l:=l) hd hl
 have hcll:=fun l (hl : ∀ x∈l,x<96)=>pX (l:=l) hd hl
 generalize bB d=G at *
 generalize rk d n=k at *
 generalize rs d n=s at *
 generalize rb d n=b at *
 generalize hVe:dX (.slice (some ⟨bd,0,none⟩) d.length cap) G (kb.v 12)=V at *
 conv=>whnf
 repeat (refine aa.of ?_;conv=>whnf)
 intro b11
 conv=>whnf
 repeat (refine aa.of ?_;conv=>whnf)
 refine aH.no (by subst he0;simp[ar]) ?_
 conv=>whnf
 repeat (refine aa.of ?_;conv=>whnf)
 obtain⟨most,hmost⟩ : ∃ m:Nat,(if k=2 then 128 else 1536)=m:=⟨_,rfl⟩
 rw[hmost] at hR
 refine aH.split (fun hk2=>?_) (fun hk2=>?_)
 all_goals
  have hmv:(most=128∧cN (k:Int) 2=true)∨(most=1536∧cN (k:Int) 2=false):=by
   rw[show cN (k:Int) 2=decide (k=2) from dP k 2]
   by_cases hq:k=2
   · rw[if_pos hq] at hmost
     exact .inl ⟨hmost.symm,by simp[hq]⟩
   · rw[if_neg hq] at hmost
     exact .inr ⟨hmost.symm,by simp[hq]⟩
  rw[hk2] at hmv
  simp only[Bool.true_eq_false,Bool.false_eq_true,and_true,and_false,or_false,false_or] at hmv
  subst hmv
  clear hmost
  conv=>whnf
  repeat (refine aa.of ?_;conv=>whnf)
  refine aH.no (by subst ho;rw[au,decide_eq_false_iff_not];omega) ?_
  conv=>whnf
  repeat (refine aa.of ?_;conv=>whnf)
  refine aH.split (fun hz0=>?_) (fun hz0=>?_)
  · have h0':data.length=0:=by
     simp[aD] at hz0
     simp[hz0]
    rw[if_pos h0'] at hR
    rw[hR]
    conv=>whnf
    repeat (refine aa.of ?_;conv=>whnf)
    refine aj.ah (ai.bS ab (t:=23) rfl rfl (ad:=⟨bv,0,none⟩) (k:=0) (L:=V) (v:=.slice (some ⟨bd,0,none⟩) d.length cap) (bp.row (by simp[Fx.and])) (fun _=>rfl) (by rw[← hVe];rfl) ?_)
    conv=>whnf
    repeat (refine aa.of ?_;conv=>whnf)
    exact x_ rfl hcap
  have h0':data.length≠0:=by
   simp[aD] at hz0
   simp
   exact hz0
  rw[if_neg h0'] at hR
  conv=>whnf
  repeat (refine aa.of ?_;conv=>whnf)
  generalize hr:(yq _ _||_)=r
  cases r
  rotate_left
  · rw[if_pos (by
     simp only[bP,Bool.or_eq_true,decide_eq_true_eq] at hr
     subst ho
     rw[wrap_i64 (by omega)] at hr
     omega)] at hR
    rw[hR]
    conv=>whnf
    repeat (refine aa.of ?_;conv=>whnf)
    exact bN
  have hlen:off+data.length≤1536:=by
   simp only[bP,Bool.or_eq_false_iff,decide_eq_false_iff_not] at hr
   subst ho
   rw[wrap_i64 (by omega)] at hr
   omega
  rw[if_neg (by
   simp only[bP,Bool.or_eq_false_iff,decide_eq_false_iff_not] at hr
   subst ho
   rw[wrap_i64 (by omega)] at hr
   omega)] at hR
  clear hr
  obtain⟨M,hM⟩ : ∃ M,(off+data.length+127)/128=M:=⟨_,rfl⟩
  obtain⟨i0,hi0⟩ : ∃ i0,off/128=i0:=⟨_,rfl⟩
  rw[hM,hi0] at hR
  have hMi:i0<M∧M≤12:=by omega
  have hq0:IntKind.i64.wrap (Int.tdiv offI (Int.ofNat 128))=((i0:Nat):Int):=by
   subst ho
   rw[← hi0]
   exact kI off 128 (by omega)
  have hps:=gZ (off+data.length) (by omega)
  rw[hM] at hps
  have hsum:IntKind.i64.wrap (offI+(data.length:Int))=((off+data.length:Nat):Int):=by
   subst ho
   rw[wrap_i64 (by omega)]
   omega
  conv=>whnf
  repeat (refine aa.of ?_;conv=>whnf)
  rw[hq0]
  refine aI.loop ab (ι:=Nat×Nat×List Nat×Option Addr×Nat×List Value) ([14,15]++List.range' 61 18) (fun x=>(i0≤x.1∧x.1≤M)∧x.2.2.1=fresh b i0 (x.1 - i0)∧x.2.1=x.2.2.1.length∧x.2.1≤x.1∧Go.Sx.Own 1 x.2.1 x.2.2.2.1 x.2.2.2.2.1 x.2.2.2.2.2 (x.2.2.1.map aE))
   (fun x=>[(14,.v (.slice x.2.2.2.1 x.2.1 x.2.2.2.2.1)),(15,.v (.int .i64 (x.1:Int)))]) (fun _=>[bg k s b]) (fun x=>⟨fun w=>By w kb (bA d)∧By w kd data,[(bd,Row.c (d.map ao++Z)),(bv,Row.c V)]++aR x.2.2.2.1 x.2.2.2.2.2⟩)
   (fun x=>M - x.1) (i0,0,[],none,0,[]) ⟨⟨Nat.le_refl _,by dsimp only;omega⟩,by dsimp only;rw[Nat.sub_self];rfl,rfl,Nat.zero_le _,Go.Sx.Own.nil 1⟩ ?_ rfl (aq.of_le ⟨by simp[Fx.and,aR],fun w hw=>⟨hw.2,hw.1.2⟩⟩) fun x hx=>?_
  · conv=>whnf
    repeat (first | exact aw.nil | refine aw.any ?_ | refine aw.cons ?_)
  obtain⟨i,m,acc,a,ca,C⟩:=x
  obtain⟨⟨hi1,hi2⟩,hac,hm,hmi,hO⟩:=hx
  dsimp only at hi1 hi2 hac hm hmi hO ⊢
  conv=>whnf
  repeat (refine aa.of ?_;conv=>whnf)
  rw[hsum]
  refine ak.val hps (fun w hw=>trivial) (fun v D hv=>?_)
  subst hv
  conv=>whnf
  repeat (refine aa.of ?_;conv=>whnf)
  refine aH.split (fun hlt=>?_) (fun hlt=>?_)
  · have hlt':i<M:=by
     simp only[au,decide_eq_true_eq] at hlt
     omega
    have hi12:i<12:=by omega
    have hfs:=j4 b i0 (i - i0)
    rw[show i0+(i - i0)=i by omega,show i - i0+1=i+1 - i0 by omega,← hac] at hfs
    conv=>whnf
    repeat (refine aa.of ?_;conv=>whnf)
    rw[bL hi12]
    conv=>whnf
    repeat (refine aa.of ?_;conv=>whnf)
    refine cF (x:=aE (b i)) (by dsimp only;rw[Nat.mul_one,Nat.zero_add];exact cP hi12) ?_
    conv=>whnf
    repeat (refine aa.of ?_;conv=>whnf)
    refine aH.split (fun hz=>?_) (fun hz=>?_)
    · have hz':b i=0:=by
       simp[aD] at hz
       omega
      rw[if_pos hz'] at hfs
      conv=>whnf
      repeat (refine aa.of ?_;conv=>whnf)
      refine aj.build ab (t:=97) rfl rfl rfl [.int .i64 (i:Int)] rfl rfl (by simp[Value.cells]) (by decide) fun b0=>?_
      conv=>whnf
      repeat (refine aa.of ?_;conv=>whnf)
      refine aj.c_ (F':=⟨fun w=>By w kb (bA d)∧By w kd data,[(bd,Row.c (d.map ao++Z)),(bv,Row.c V)]++aR a C ++ [(b0,Row.c [aE i])]⟩) (aq.of_le ⟨by simp[Value.cells,aE],fun w hw=>hw⟩) ?_
      refine aj.append ab (t:=97) (xt:=97) rfl rfl rfl rfl rfl rfl (r1:=[(bd,Row.c (d.map ao++Z)),(bv,Row.c V)]) (r2:=[(b0,Row.c [aE i])]) (M:=[aE i]) hO (bp.row (by simp)) rfl (by simp[aE,aO]) (by omega) (by simp;omega) fun a' c' C' hO'=>?_
      conv=>whnf
      repeat (refine aa.of ?_;conv=>whnf)
      refine⟨(i+1,m+1,acc ++ [i],a',c',C'),⟨⟨⟨by dsimp only;omega,by dsimp only;omega⟩,hfs.symm,?_,?_,?_⟩,by dsimp only;omega⟩,?_,?_,?_⟩
      · dsimp only
        simp[hm]
      · dsimp only
        omega
      · dsimp only
        rw[List.map_append]
        exact hO'
      · conv=>whnf
        refine⟨?_,rfl⟩
        repeat (first | exact aw.nil | refine aw.any ?_ | refine aw.cons ?_ | refine aw.eq (by rw[wrap_i64 (by omega)];rfl) ?_)
      · conv=>whnf
        exact⟨⟨rfl,rfl⟩,trivial⟩
      · exact aq.of_le ⟨by simp,fun w hw=>hw⟩
    · have hz':b i≠0:=by
       simp[aD] at hz
       omega
      rw[if_neg hz',List.append_nil] at hfs
      conv=>whnf
      repeat (refine aa.of ?_;conv=>whnf)
      refine⟨(i+1,m,acc,a,ca,C),⟨⟨⟨by dsimp only;omega,by dsimp only;omega⟩,hfs.symm,hm,by dsimp only;omega,hO⟩,by dsimp only;omega⟩,?_,?_,aq.refl _⟩
      · conv=>whnf
        refine⟨?_,rfl⟩
        repeat (first | exact aw.nil | refine aw.any ?_ | refine aw.cons ?_ | refine aw.eq (by rw[wrap_i64 (by omega)];rfl) ?_)
      · conv=>whnf
        exact⟨⟨rfl,rfl⟩,trivial⟩
  have hie:i=M:=by
   simp only[au,decide_eq_false_iff_not] at hlt
   omega
  subst hie
  rw[← hac,← hm,nI,← hm] at hR
  have hvt:=hvt m (by omega)
  conv=>whnf
  repeat (refine aa.of ?_;conv=>whnf)
  refine ak.c_ (F':=⟨fun w=>By w kb (bA d)∧By w kd data,[(bd,Row.c (d.map ao++Z))] ++ [(bv,Row.c V)]++aR a C⟩) (aq.of_le ⟨by simp,fun w hw=>hw⟩) ?_
  refine ak.rows hvt (fun w hw=>hw.1) (fun v F hv=>?_)
  by_cases hf:(bw (bA d)).length<m
  · rw[if_pos hf] at hv
    obtain⟨r,hr,rfl,rfl⟩:=hv
    rw[if_pos hf] at hR
    rw[hR]
    conv=>whnf
    repeat (refine aa.of ?_;conv=>whnf)
    refine aH.yes (by subst hr;rfl) ?_
    conv=>whnf
    repeat (refine aa.of ?_;conv=>whnf)
    exact bN
  rw[if_neg hf] at hv
  obtain⟨l,k2,r,hr,rfl,hlo,hk2o,rfl⟩:=hv
  rw[if_neg hf] at hR
  have hvl2:=hvl (k2.v 12)
  have hv002:=hv00 (k2.v 12)
  have hvs2:=fun i=>hvs (k2.v 12) i
  generalize hV2:dX (.slice (some ⟨bd,0,none⟩) d.length cap) G (k2.v 12)=V2 at *
  generalize hLL:(bw (bA d)).take m=LL at *
  have hLm:LL.length=m:=by rw[← hLL,List.length_take];omega
  have hLx : ∀ x∈LL,18≤x∧x<96:=fun x hx=>by
   have:=hfl x (by rw[← hLL] at hx;exact List.mem_of_mem_take hx)
   exact⟨this.1,this.2.1⟩
  have hb12:(dp (bA d) LL).length=12:=by rw[jJ];exact hbm
  generalize dp (bA d) LL=bits at *
  have hzl:(acc.zip LL).length=m:=by rw[List.length_zip];omega
  conv=>whnf
  repeat (refine aa.of ?_;conv=>whnf)
  refine aH.no (by subst hr;rfl) ?_
  conv=>whnf
  repeat (refine aa.of ?_;conv=>whnf)
  refine aI.loop ab (ι:=Nat) ([18,19]++List.range' 90 19) (fun x=>x≤m)
   (fun x=>[(90,.v (.int .i64 (x:Int)))]) (fun x=>[bg k s (kJ b ((acc.zip LL).take x))]) (fun x=>⟨fun w=>(By w kd data∧aB w l.a (LL.map aE)∧By w k2 bits)∧aB w a (acc.map aE),[(bd,Row.c ((vk d (LL.take x)).map ao++Z)),(bv,Row.c V2)]⟩)
   (fun x=>m - x) 0 (Nat.zero_le _) ?_ rfl ?_ fun j hj=>?_
  · conv=>whnf
    repeat (first | exact aw.nil | refine aw.any ?_ | refine aw.cons ?_)
  · refine(Go.Sx.Own.share (r1:=[(bd,Row.c (d.map ao++Z))] ++ [(bv,Row.c V2)]) (r2:=[]) hO |> fun h=>(show aq ⟨_,[(bd,Row.c (d.map ao++Z))] ++ [(bv,Row.c V2)]++aR a C⟩ ⟨_,[(bd,Row.c (d.map ao++Z))] ++ [(bv,Row.c V2)] ++ []⟩ from by simpa using h)).trans ?_
    exact aq.of_le ⟨by simp[vk],fun w hw=>⟨⟨hw.1.1.2,hw.1.2⟩,hw.2⟩⟩
  have hcj:=hcll (LL.take j) fun x hx=>(hLx x (List.mem_of_mem_take hx)).2
  conv=>whnf
  repeat (refine aa.of ?_;conv=>whnf)
  refine aH.split (fun hlt2=>?_) (fun hlt2=>?_)
  · have hjm:j<m:=by
     simp only[au,decide_eq_true_eq] at hlt2
     omega
    have hja:j<acc.length:=by omega
    have hjl:j<LL.length:=by omega
    have hzt:=BE hja hjl
    have hct:=BM d hjl
    have hxj:=hLx LL[j] (List.getElem_mem hjl)
    have hfj:acc[j]<12:=by
     have hmem:acc[j]∈fresh b i0 (i - i0):=by
      rw[← hac]
      exact List.getElem_mem hja
     have:=(jo.1 hmem).2.1
     omega
    conv=>whnf
    repeat (refine aa.of ?_;conv=>whnf)
    refine aj.ah (ai.index ab (t:=97) rfl rfl rfl (by omega) (by omega) hO.hd.nil fun ad had=>?_)
    conv=>whnf
    repeat (refine aa.of ?_;conv=>whnf)
    refine aj.ah (ai.load ab (t:=3) rfl rfl (ad:=ad) (k:=j) (L:=acc.map aE) (v:=aE acc[j]) (.fact fun w hw=>had ▸ hw.2) (by simp) (by simp[hja]) ?_)
    conv=>whnf
    repeat (refine aa.of ?_;conv=>whnf)
    refine aj.ah (ai.index ab (t:=97) rfl rfl rfl (by omega) (by omega) hlo.nil fun ad2 had2=>?_)
    conv=>whnf
    repeat (refine aa.of ?_;conv=>whnf)
    refine aj.ah (ai.load ab (t:=3) rfl rfl (ad:=ad2) (k:=j) (L:=LL.map aE) (v:=aE LL[j]) (.fact fun w hw=>had2 ▸ hw.1.2.1) (by simp) (by simp[hjl]) ?_)
    have hlj:(LL.map aE)[j]? = some (aE LL[j]):=by simp[hjl]
    generalize acc[j]=fj at *
    generalize LL[j]=xj at *
    conv=>whnf
    repeat (refine aa.of ?_;conv=>whnf)
    rw[bL hfj]
    conv=>whnf
    repeat (refine aa.of ?_;conv=>whnf)
    refine eB (by simp[bg];omega) ?_
    conv=>whnf
    repeat (refine aa.of ?_;conv=>whnf)
    refine aj.ah (ai.index ab (t:=97) rfl rfl rfl (by omega) (by omega) hlo.nil fun ad3 had3=>?_)
    conv=>whnf
    repeat (refine aa.of ?_;conv=>whnf)
    refine aj.ah (ai.load ab (t:=3) rfl rfl (ad:=ad3) (k:=j) (L:=LL.map aE) (v:=aE xj) (.fact fun w hw=>had3 ▸ hw.1.2.1) (by simp) hlj ?_)
    conv=>whnf
    repeat (refine aa.of ?_;conv=>whnf)
    refine ak.look (du bv V2 ⟨some ⟨bd,0,none⟩,cap⟩ d.length hv002 hok0 hd xj hxj.2) (Loc.row _ _) (fun w hst=>bp.row (by simp) w hst) ?_
    rw[dO (by omega)]
    conv=>whnf
    repeat (refine aa.of ?_;conv=>whnf)
    refine aj.B3 ab (t:=23) rfl rfl rfl rfl (z:=.int .u8 0) rfl rfl (r1:=[]) (r2:=[(bv,Row.c V2)]) (b:=bd) (k:=128*xj) (C:=(vk d (LL.take j)).map ao++Z) rfl (by decide) (by simp;omega) ?_
    rw[oK,jW (by simp;omega),← hct]
    conv=>whnf
    repeat (refine aa.of ?_;conv=>whnf)
    refine⟨j+1,⟨hjm,by dsimp only;omega⟩,?_,?_,?_⟩
    · conv=>whnf
      refine⟨?_,rfl⟩
      repeat (first | exact aw.nil | refine aw.any ?_ | refine aw.cons ?_ | refine aw.eq (by rw[wrap_i64 (by omega)];rfl) ?_)
    · conv=>whnf
      refine⟨⟨rfl,?_⟩,trivial⟩
      dsimp only
      rw[hzt,qj,Nat.mul_one,Nat.zero_add]
      exact ju hfj xj
    · exact aq.of_le ⟨List.Sublist.refl _,fun w hw=>hw⟩
  have hje:j=m:=by
   simp only[au,decide_eq_false_iff_not] at hlt2
   omega
  subst hje
  have ht1:LL.take j=LL:=List.take_of_length_le (by omega)
  have ht2:(acc.zip LL).take j=acc.zip LL:=List.take_of_length_le (by omega)
  rw[ht1] at hcj ⊢
  rw[ht2]
  have hcb:=hclb LL fun x hx=>(hLx x hx).2
  have hbk : ∀ q,q<data.length→18≤kJ b (acc.zip LL) ((off+q)/128)∧kJ b (acc.zip LL) ((off+q)/128)<96:=by
   intro q hq
   have hao:=xQ (b:=b) (i:=i0) (m:=i - i0) (j:=(off+q)/128) (L:=LL) (by rw[← hac];omega) (by omega) (by omega)
   rw[← hac] at hao
   rcases hao with⟨h1,h2⟩ | ⟨h1,h2⟩
   · rw[h2]
     exact hbl _ (by omega) h1
   · exact hLx _ h2
  have hb2 : ∀ j,kJ b (acc.zip LL) j≤1000000:=DN (fun j=>by have:=hrb j;omega) fun p hp=>by
   have:=hLx _ (List.of_mem_zip hp).2
   omega
  generalize kJ b (acc.zip LL)=b2 at *
  generalize vk d LL=e0 at *
  have hwl:=fun q=>(gh e0 b2 off data q).trans hcj
  obtain⟨-,hw2⟩:=gT (o:=e0) (o':=e0) (b:=b2) (off:=off) (data:=data) hcj hcj hbk (fun m hm=>rfl) data.length (Nat.le_refl _)
  have hin : ∀ m,1792≤m→m<2304→aJ (mK e0 b2 off data data.length) m=aJ d m:=fun m h1 h2=>by
   rw[hw2 m h2,hcb,if_neg (fun h=>by have:=(hLx _ h).1;omega)]
  have hmx:max s (off+data.length)≤1000000:=by omega
  have hdn:=hwd (mK e0 b2 off data data.length) (hwl _) (fN G n (k,max s (off+data.length),b2)) (hsm _ ⟨by dsimp only;omega,hmx,hb2⟩) k2 hk2o bits hb12
  rw[hone _ bits (hwl _) hb12 hin] at hdn
  dsimp only at hdn
  have hvs3:=hvs2 (k,max s (off+data.length),b2)
  have hpl:=bf (hwl data.length) hn k (max s (off+data.length)) b2
  have hfl2:=aP hpl hb12
  rw[show(mK e0 b2 off data data.length).length=d.length by rw[hwl,hd]] at hdn
  generalize hX:cD (cS (mK e0 b2 off data data.length) n k (max s (off+data.length)) b2) bits=XX at *
  generalize dX (.slice (some ⟨bd,0,none⟩) d.length cap) (fN G n (k,max s (off+data.length),b2)) (k2.v 12)=V3 at *
  rw[hR]
  have hws : ∀ q,mK e0 b2 off data (q+1)=dm (mK e0 b2 off data q) (128*b2 ((off+q)/128)+(off+q)%128) (aJ data q):=fun q=>rfl
  have hw0:mK e0 b2 off data 0=e0:=rfl
  clear hw2 hin hX hR
  generalize mK e0 b2 off data=wq at *
  conv=>whnf
  repeat (refine aa.of ?_;conv=>whnf)
  refine aI.loop ab (ι:=Nat) ([20,21,22]++List.range' 111 20) (fun x=>x≤data.length)
   (fun x=>[(111,.v (.int .i64 (x:Int)))]) (fun _=>[bg k s b2]) (fun x=>⟨fun w=>By w kd data∧By w k2 bits,[(bd,Row.c ((wq x).map ao++Z)),(bv,Row.c V2)]⟩)
   (fun x=>data.length - x) 0 (Nat.zero_le _) ?_ rfl (aq.of_le ⟨by rw[hw0];exact List.Sublist.refl _,fun w hw=>⟨hw.1.1,hw.1.2.2⟩⟩) fun q hq=>?_
  · conv=>whnf
    repeat (first | exact aw.nil | refine aw.any ?_ | refine aw.cons ?_)
  conv=>whnf
  repeat (refine aa.of ?_;conv=>whnf)
  refine aH.split (fun hlt3=>?_) (fun hlt3=>?_)
  · have hq':q<data.length:=by
     simp only[au,decide_eq_true_eq] at hlt3
     omega
    have f1:IntKind.i64.wrap (offI+(q:Int))=((off+q:Nat):Int):=by
     subst ho
     rw[wrap_i64 (by omega)]
     omega
    have f2:IntKind.i64.wrap (Int.tdiv ((off+q:Nat):Int) (Int.ofNat 128))=(((off+q)/128:Nat):Int):=kI (off+q) 128 (by omega)
    have f3:Int.tmod ((off+q:Nat):Int) (Int.ofNat 128)=(((off+q)%128:Nat):Int):=dL (off+q) 128
    have hi12:(off+q)/128<12:=by omega
    obtain⟨hk1,hk2'⟩:=hbk q hq'
    have hwq:=hwl q
    conv=>whnf
    repeat (refine aa.of ?_;conv=>whnf)
    refine aj.ah (ai.cL ab (t:=23) rfl rfl rfl rfl q rfl hq' hkd fun ad had=>?_)
    conv=>whnf
    repeat (refine aa.of ?_;conv=>whnf)
    refine aj.ah (ai.cy ab (t:=5) rfl rfl had (.fact fun w h=>h.1) rfl hq' ?_)
    conv=>whnf
    repeat (refine aa.of ?_;conv=>whnf)
    rw[f1,f2]
    conv=>whnf
    repeat (refine aa.of ?_;conv=>whnf)
    rw[bL hi12]
    conv=>whnf
    repeat (refine aa.of ?_;conv=>whnf)
    refine cF (x:=aE (b2 ((off+q)/128))) (by dsimp only;rw[Nat.mul_one,Nat.zero_add];exact cP hi12) ?_
    conv=>whnf
    repeat (refine aa.of ?_;conv=>whnf)
    refine ak.look (du bv V2 ⟨some ⟨bd,0,none⟩,cap⟩ d.length hv002 hok0 hd (b2 ((off+q)/128)) hk2') (Loc.row _ _) (fun w hst=>bp.row (by simp) w hst) ?_
    rw[dO (by omega)]
    conv=>whnf
    repeat (refine aa.of ?_;conv=>whnf)
    refine aj.ah (ai.f_ ab (t:=23) rfl rfl rfl rfl ((off+q)%128) f3 (Nat.mod_lt _ (by decide)) ?_)
    conv=>whnf
    repeat (refine aa.of ?_;conv=>whnf)
    refine a_.cC ab (t:=5) rfl rfl (r1:=[]) (r2:=[(bv,Row.c V2)]) (k:=128*b2 ((off+q)/128)+(off+q)%128) (l:=wq q) (Z:=Z) (aJ data q) rfl rfl (bJ _ _) (by omega) ?_
    rw[← hws]
    conv=>whnf
    repeat (refine aa.of ?_;conv=>whnf)
    refine⟨q+1,⟨hq',by dsimp only;omega⟩,?_,?_,aq.refl _⟩
    · conv=>whnf
      refine⟨?_,rfl⟩
      repeat (first | exact aw.nil | refine aw.any ?_ | refine aw.cons ?_ | refine aw.eq (by rw[wrap_i64 (by omega)];rfl) ?_)
    · conv=>whnf
      exact⟨⟨rfl,rfl⟩,trivial⟩
  have hqe:q=data.length:=by
   simp only[au,decide_eq_false_iff_not] at hlt3
   omega
  subst hqe
  generalize wq data.length=dd at *
  conv=>whnf
  repeat (refine aa.of ?_;conv=>whnf)
  rw[hsum]
  refine aj.ah (ai.max ?_)
  generalize max s (off+data.length)=mx at *
  conv=>whnf
  repeat (refine aa.of ?_;conv=>whnf)
  refine aI.draw ab mixed rfl rfl ?_
  conv=>whnf
  repeat' (first
   | (refine And.intro ?_ ?_<;>conv=>whnf)
   | (refine ax.same rfl ?_;conv=>whnf)
   | (refine ax.row rfl ?_;conv=>whnf)
   | (refine ax.call rfl ?_;conv=>whnf)
   | (refine bG.of ?_;conv=>whnf)
   | (refine aa.of ?_;conv=>whnf)
   | (refine ai.dk ab (t:=103) rfl rfl rfl n rfl hn rfl ?_;conv=>whnf)
   | (refine ax.mk ?_ ?_;(focus (first | exact aq.refl _ | exact aq.left _ _ | exact aq.of_le ⟨List.sublist_append_left _ _,fun w h=>h⟩ | exact aq.of_le ⟨List.Sublist.refl _,fun w h=>h.1⟩));conv=>whnf))
  refine a_.cE ab (t:=82) rfl (r1:=[(bd,Row.c (dd.map ao++Z))]) (r2:=[]) (b:=bv) (k:=1+14*n) (C:=V2) (v:=.agg ⟨bg k mx b2⟩) (by show(Addr.add ⟨bv,0,none⟩ 1).add (n*14)=_;simp only[Addr.aV];rw[Nat.zero_add,Nat.mul_comm]) rfl (by simp[Value.cells,bg,aE,aO]) (by rw[hvl2];show _+14≤_;omega) ?_
  rw[show laid V2 (1+14*n) (Value.agg ⟨bg k mx b2⟩).cells.toList=V3 from hvs3]
  conv=>whnf
  repeat (refine aa.of ?_;conv=>whnf)
  refine ak.rows (r1:=[]) (r2:=[]) hdn (fun w hw=>hw.2) (fun v F hv=>?_)
  obtain⟨rfl,rfl⟩:=hv
  conv=>whnf
  repeat (refine aa.of ?_;conv=>whnf)
  exact jG (by omega) hcap
structure Fl where
 path:List UInt8
 dir:Bool
 h:Hd
 data:List UInt8
def xZ (x:Fl):List Value:=[aC x.path,.bool x.dir,x.h.v x.data.length]
def dN (l:List Fl):List Value:=l.flatMap xZ
theorem Ch (l:List Fl):(dN l).length=l.length*3:=by
 induction l with
 | nil=>rfl
 | cons e l ih=>simp[dN,xZ] at ih ⊢;omega
theorem nF : ∀ {l:List Fl} {i:Nat} (h:i<l.length),((dN l).drop (i*3)).take 3=xZ l[i]
 | [],i,h=>by simp at h
 | e::l,0,h=>rfl
 | e::l,i+1,h=>by
  have:=nF (l:=l) (i:=i) (by simpa using h)
  have e1:dN (e::l)=aC e.path :: .bool e.dir::e.h.v e.data.length::dN l:=rfl
  rw[e1,show(i+1)*3=i*3+1+1+1 by omega]
  simpa using this
theorem zd {l:List Fl} {i:Nat} (h:i<l.length):(dN l)[i*3]? = some (aC l[i].path)∧(dN l)[i*3+1]? = some (.bool l[i].dir)∧(dN l)[i*3+2]? = some (l[i].h.v l[i].data.length):=by
 have hg:=nF h
 have e : ∀ j,j<3→(dN l)[i*3+j]? = (xZ l[i])[j]?:=fun j hj=>by
  rw[← hg,List.getElem?_take,if_pos hj,List.getElem?_drop]
 exact⟨e 0 (by decide),e 1 (by decide),e 2 (by decide)⟩
def eC (w:World) (a:Option Addr) (l:List Fl):Prop:=aB w a (dN l)∧∀ x∈l,By w x.h x.data
noncomputable def wu (d:List UInt8) (x:Fl):List UInt8×Nat:=
 if (bE d x.path (if x.dir=true then 2 else 1)).2.2≠0 then ([],(bE d x.path (if x.dir=true then 2 else 1)).2.2)
 else if x.dir=true then ((bE d x.path (if x.dir=true then 2 else 1)).2.1,0)
 else if (bQ (bE d x.path (if x.dir=true then 2 else 1)).2.1 (bE d x.path (if x.dir=true then 2 else 1)).1 x.data).2≠0 then ([],(bQ (bE d x.path (if x.dir=true then 2 else 1)).2.1 (bE d x.path (if x.dir=true then 2 else 1)).1 x.data).2)
 else ((bQ (bE d x.path (if x.dir=true then 2 else 1)).2.1 (bE d x.path (if x.dir=true then 2 else 1)).1 x.data).1,0)
noncomputable def dT (d:List UInt8):List Fl→List UInt8×Nat
 | []=>(d,0)
 | x::l=>if (wu d x).2≠0 then ([],(wu d x).2) else dT (wu d x).1 l
theorem jE (d p:List UInt8) (kind:Int):(bE d p kind).2.2=0→(bE d p kind).2.1.length=12288:=fun h=>(bl (bx (n_ h).2.2.choose_spec.choose_spec.choose_spec.2.2.2.2.2.ok).1).1
theorem sR {d:List UInt8} {n:Nat} {data:List UInt8} (h:(bQ d n data).2=0):(bQ d n data).1.length=12288:=by
 unfold bQ at h ⊢
 by_cases hg:a7 d n≠0
 · rw[if_pos hg] at h
   exact absurd h hg
 rw[if_neg hg] at h ⊢
 obtain⟨hd,hok,m,hm,hm32,hrk⟩:=cd (show a7 d n=0 by omega)
 have hm:n=m:=by omega
 subst hm
 by_cases h1:data.length=0
 · rw[if_pos h1]
   exact hd
 rw[if_neg h1] at h ⊢
 by_cases h2:(if rk d n=2 then 128 else 1536)<data.length
 · rw[if_pos h2] at h
   cases h
 rw[if_neg h2] at h ⊢
 have hw:=Dy hd (rb d n) ((data.length+127)/128)
 dsimp only at hw
 split at hw
 · obtain⟨o,h3,h4,-⟩:=hw
   rw[h3]
   exact bf ((ka o _ data data.length).trans h4) hm32 _ _ _
 · rw[hw] at h
   cases h
theorem pL:m9 iY:=by
 have hX:iY=cS (cD (lay (lay (List.replicate 12288 0) 0 [82,70,83,49]) 128 jb) (bZ (List.range 19))) 0 2 128 (fun i=>if i=0 then 18 else 0):=rfl
 have hH:jb.length=128:=by
  have:jb=kR++gj (ofM kR) 8++List.replicate 100 0:=rfl
  rw[this,List.length_append,List.length_append,gq,gY,List.length_replicate]
 rw[hX]
 generalize jb=H at *
 clear hX
 obtain⟨d0,mf⟩ : ∃ d0,d0=List.replicate 12288 (0:UInt8):=⟨_,rfl⟩
 have hl0:d0.length=12288:=by rw[mf];exact List.length_replicate
 have hz0 : ∀ m,aJ d0 m=0:=fun m=>by
  rw[mf]
  unfold aJ
  rw[List.getD_eq_getElem?_getD,List.getElem?_replicate]
  split<;>rfl
 rw[← mf]
 clear mf
 have hb1:=fun m=>cu (l:=d0) (m:=[82,70,83,49]) (k:=0) (by simp;omega) m
 have hl1:(lay d0 0 [82,70,83,49]).length=12288:=by rw[ct (by simp;omega),hl0]
 generalize lay d0 0 [82,70,83,49]=d1 at *
 have hb2:=fun m=>cu (l:=d1) (m:=H) (k:=128) (by omega) m
 have hl2:(lay d1 128 H).length=12288:=by rw[ct (by omega),hl1]
 generalize lay d1 128 H=d2 at *
 have hbf:=fun m=>aX hl2 (b:=bZ (List.range 19)) (bu _) m
 have hl3:=aP hl2 (b:=bZ (List.range 19)) (bu _)
 generalize cD d2 (bZ (List.range 19))=d3 at *
 have hpl:=bf hl3 (show 0<32 by decide) 2 128 (fun i=>if i=0 then 18 else 0)
 have hpb:=bO hl3 (show 0<32 by decide) 2 128 (fun i=>if i=0 then 18 else 0)
 generalize cS d3 0 2 128 (fun i=>if i=0 then 18 else 0)=d4 at *
 refine⟨hpl,fun m h1 h2=>?_,fun m h1 h2=>?_,fun m h1=>?_,fun m h1 h2 h3 h4=>?_⟩
 · rw[hpb,if_pos (by omega)]
 · rw[hpb,if_neg (by omega),hbf,if_pos (by omega)]
 · rw[hpb,if_neg (by omega),hbf,if_neg (by omega),hb2,if_neg (by omega),hb1,if_pos (by simp;omega)]
   rfl
 · rw[hpb,if_neg (by omega),hbf,if_neg (by omega),hb2,if_neg (by omega),hb1,if_neg (by simp;omega),hz0]
theorem nw:af Tryz.prog 20 [] (fun _=>True) (lq iY):=
 uW.weaken fun v F hv=>by
  obtain⟨d,hd,hF,b,c,Z,rfl,hc,rfl⟩:=hv
  subst hd
  exact mZ (r1:=[]) (r2:=[]) rfl hc
theorem uq (l:List Fl) (k:Hd) (hk:k.Ok l.length) (hl:l.length≤1000000) (hx : ∀ x∈l,x.path.length≤200∧x.data.length≤1000000∧x.h.Ok x.data.length) :
 af Tryz.prog 17 [k.v l.length] (fun w=>eC w k.a l) (fJ (dT iY l).1 (dT iY l).2):=by
 obtain⟨R,hR⟩ : ∃ R,R=dT iY l:=⟨_,rfl⟩
 rw[← hR]
 refine af.aF ab Tryz.func17 rfl (by decide) (n:=Tryz.f17.ntmps - 1) rfl rfl fun w0 av=>?_
 conv=>whnf
 have hfl:=pL.len
 have hfs:=nw
 generalize iY=fd at *
 refine ak.pure hfs (fun w hw=>trivial) (fun v D hv=>?_)
 obtain⟨h0,rfl,hh0,rfl⟩:=hv
 conv=>whnf
 refine aI.loop ab (ι:=Nat×List UInt8×Hd) ([4,5,6,7,8,9]++List.range' 11 48) (fun x=>x.1≤l.length∧R=dT x.2.1 (l.drop x.1)∧x.2.1.length=12288∧x.2.2.Ok x.2.1.length)
  (fun x=>[(4,.v (x.2.2.v x.2.1.length)),(5,.v (.int .i64 (x.1:Int)))]) (fun _=>[]) (fun x=>⟨fun w=>eC w k.a l∧By w x.2.2 x.2.1,[]⟩)
  (fun x=>l.length - x.1) (0,fd,h0) ⟨Nat.zero_le _,hR,hfl,hh0⟩ ?_ rfl (aq.of_le ⟨by simp[Fx.and],fun w hw=>hw⟩) fun x hx'=>?_
 · conv=>whnf
   repeat (first | exact aw.nil | refine aw.any ?_ | refine aw.cons ?_)
 clear hR hfl hfs hh0
 obtain⟨i,d,h⟩:=x
 obtain⟨hi,hfo,hdl,hh⟩:=hx'
 dsimp only at hi hfo hdl hh ⊢
 conv=>whnf
 repeat (refine aa.of ?_;conv=>whnf)
 refine aH.split (fun hlt=>?_) (fun hlt=>?_)
 · have hlt':i<l.length:=by
    simp[au] at hlt
    omega
   obtain⟨x1,x2,x3⟩:=hx _ (List.getElem_mem hlt')
   obtain⟨c1,c2,c3⟩:=zd hlt'
   have hby : ∀ w,eC w k.a l→By w l[i].h l[i].data:=fun w hw=>hw.2 _ (List.getElem_mem hlt')
   rw[List.drop_eq_getElem_cons hlt'] at hfo
   unfold dT at hfo
   have hmk:wu d l[i]=wu d l[i]:=rfl
   conv at hmk=>rhs;unfold wu
   generalize wu d l[i]=mk at *
   generalize l[i]=y at *
   obtain⟨p,dir,kh,data⟩:=y
   dsimp only at x1 x2 x3 c1 c2 c3 hby hmk
   cases dir
   · simp only[Bool.false_eq_true,if_false] at hmk
     have hml:=jE d p 1
     have hms:=iR d h hh (by omega) p x1 1
     generalize bE d p 1=mr at *
     obtain⟨n,d2,e⟩:=mr
     dsimp only at hmk hml hms
     conv=>whnf
     repeat (refine aa.of ?_;conv=>whnf)
     refine aj.ah (ai.index ab (t:=22) rfl rfl rfl (by omega) (by omega) hk.nil fun ad had=>?_)
     conv=>whnf
     repeat (refine aa.of ?_;conv=>whnf)
     refine aj.ah (ai.bS ab (t:=4) rfl rfl (ad:=ad) (k:=i*3+1) (L:=dN l) (v:=.bool false) (.fact fun w hw=>had ▸ hw.1.1) (fun hs=>by rw[Addr.dE hs];congr 1) c2 ?_)
     conv=>whnf
     repeat (refine aa.of ?_;conv=>whnf)
     refine aj.ah (ai.index ab (t:=22) rfl rfl rfl (by omega) (by omega) hk.nil fun ad2 had2=>?_)
     conv=>whnf
     repeat (refine aa.of ?_;conv=>whnf)
     refine aj.ah (ai.bS ab (t:=9) rfl rfl (ad:=ad2) (k:=i*3) (L:=dN l) (v:=aC p) (.fact fun w hw=>had2 ▸ hw.1.1) (fun hs=>by rw[Addr.dE hs];congr 1) c1 ?_)
     conv=>whnf
     repeat (refine aa.of ?_;conv=>whnf)
     refine ak.pure hms (fun w hw=>hw.2) (fun v D hv=>?_)
     obtain⟨k2,rfl,hk2,rfl⟩:=hv
     conv=>whnf
     repeat (refine aa.of ?_;conv=>whnf)
     generalize hq:cN (e:Int) 0=q
     cases q
     · have he:e≠0:=by
        simp[aD] at hq
        omega
       rw[if_pos he] at hmk
       subst hmk
       rw[if_pos he] at hfo
       rw[hfo]
       conv=>whnf
       repeat (refine aa.of ?_;conv=>whnf)
       refine aH.yes (by simp[ar];omega) ?_
       conv=>whnf
       repeat (refine aa.of ?_;conv=>whnf)
       exact bN
     have he:e=0:=by
      simp[aD] at hq
      omega
     rw[if_neg (by omega)] at hmk
     have hwl:=sR (d:=d2) (n:=n) (data:=data)
     have hws:=nz d2 k2 hk2 (by have:=hml he;omega) n 0 rfl data kh x3 x2
     generalize bQ d2 n data=wr at *
     obtain⟨d3,e3⟩:=wr
     dsimp only at hmk hwl hws
     conv=>whnf
     repeat (refine aa.of ?_;conv=>whnf)
     refine aj.ah (ai.index ab (t:=22) rfl rfl rfl (by omega) (by omega) hk.nil fun ad3 had3=>?_)
     conv=>whnf
     repeat (refine aa.of ?_;conv=>whnf)
     refine aj.ah (ai.bS ab (t:=4) rfl rfl (ad:=ad3) (k:=i*3+1) (L:=dN l) (v:=.bool false) (.fact fun w hw=>had3 ▸ hw.1.1.1) (fun hs=>by rw[Addr.dE hs];congr 1) c2 ?_)
     conv=>whnf
     repeat (refine aa.of ?_;conv=>whnf)
     refine aj.ah (ai.index ab (t:=22) rfl rfl rfl (by omega) (by omega) hk.nil fun ad4 had4=>?_)
     conv=>whnf
     repeat (refine aa.of ?_;conv=>whnf)
     refine aj.ah (ai.bS ab (t:=23) rfl rfl (ad:=ad4) (k:=i*3+2) (L:=dN l) (v:=kh.v data.length) (.fact fun w hw=>had4 ▸ hw.1.1.1) (fun hs=>by rw[Addr.dE hs];congr 1) c3 ?_)
     conv=>whnf
     repeat (refine aa.of ?_;conv=>whnf)
     refine ak.pure hws (fun w hw=>⟨hw.2,hby w hw.1.1⟩) (fun v D hv=>?_)
     obtain⟨k3,rfl,hk3,rfl⟩:=hv
     conv=>whnf
     repeat (refine aa.of ?_;conv=>whnf)
     refine aH.split (fun hq3=>?_) (fun hq3=>?_)
     · have he3:e3≠0:=by
        simp[ar] at hq3
        omega
       rw[if_pos he3] at hmk
       subst hmk
       rw[if_pos he3] at hfo
       rw[hfo]
       conv=>whnf
       repeat (refine aa.of ?_;conv=>whnf)
       exact bN
     have he3:e3=0:=by
      simp[ar] at hq3
      omega
     rw[if_neg (by omega)] at hmk
     subst hmk
     rw[if_neg (by simp)] at hfo
     conv=>whnf
     repeat (refine aa.of ?_;conv=>whnf)
     refine⟨(i+1,d3,k3),⟨⟨hlt',hfo,hwl he3,hk3⟩,by dsimp only;omega⟩,?_,?_,?_⟩
     · conv=>whnf
       refine⟨?_,rfl⟩
       repeat (first | exact aw.nil | refine aw.any ?_ | refine aw.cons ?_ | refine aw.eq (by rw[wrap_i64 (by omega)];rfl) ?_)
     · conv=>whnf
       exact trivial
     · exact aq.of_le ⟨by simp[Fx.and],fun w hw=>⟨hw.1.1.1,hw.2⟩⟩
   · simp only[if_true] at hmk
     have hml:=jE d p 2
     have hms:=iR d h hh (by omega) p x1 2
     generalize bE d p 2=mr at *
     obtain⟨n,d2,e⟩:=mr
     dsimp only at hmk hml hms
     conv=>whnf
     repeat (refine aa.of ?_;conv=>whnf)
     refine aj.ah (ai.index ab (t:=22) rfl rfl rfl (by omega) (by omega) hk.nil fun ad had=>?_)
     conv=>whnf
     repeat (refine aa.of ?_;conv=>whnf)
     refine aj.ah (ai.bS ab (t:=4) rfl rfl (ad:=ad) (k:=i*3+1) (L:=dN l) (v:=.bool true) (.fact fun w hw=>had ▸ hw.1.1) (fun hs=>by rw[Addr.dE hs];congr 1) c2 ?_)
     conv=>whnf
     repeat (refine aa.of ?_;conv=>whnf)
     refine aj.ah (ai.index ab (t:=22) rfl rfl rfl (by omega) (by omega) hk.nil fun ad2 had2=>?_)
     conv=>whnf
     repeat (refine aa.of ?_;conv=>whnf)
     refine aj.ah (ai.bS ab (t:=9) rfl rfl (ad:=ad2) (k:=i*3) (L:=dN l) (v:=aC p) (.fact fun w hw=>had2 ▸ hw.1.1) (fun hs=>by rw[Addr.dE hs];congr 1) c1 ?_)
     conv=>whnf
     repeat (refine aa.of ?_;conv=>whnf)
     refine ak.pure hms (fun w hw=>hw.2) (fun v D hv=>?_)
     obtain⟨k2,rfl,hk2,rfl⟩:=hv
     conv=>whnf
     repeat (refine aa.of ?_;conv=>whnf)
     generalize hq:cN (e:Int) 0=q
     cases q
     · have he:e≠0:=by
        simp[aD] at hq
        omega
       rw[if_pos he] at hmk
       subst hmk
       rw[if_pos he] at hfo
       rw[hfo]
       conv=>whnf
       repeat (refine aa.of ?_;conv=>whnf)
       refine aH.yes (by simp[ar];omega) ?_
       conv=>whnf
       repeat (refine aa.of ?_;conv=>whnf)
       exact bN
     have he:e=0:=by
      simp[aD] at hq
      omega
     rw[if_neg (by omega)] at hmk
     subst hmk
     rw[if_neg (by simp)] at hfo
     conv=>whnf
     repeat (refine aa.of ?_;conv=>whnf)
     refine aj.ah (ai.index ab (t:=22) rfl rfl rfl (by omega) (by omega) hk.nil fun ad3 had3=>?_)
     conv=>whnf
     repeat (refine aa.of ?_;conv=>whnf)
     refine aj.ah (ai.bS ab (t:=4) rfl rfl (ad:=ad3) (k:=i*3+1) (L:=dN l) (v:=.bool true) (.fact fun w hw=>had3 ▸ hw.1.1.1) (fun hs=>by rw[Addr.dE hs];congr 1) c2 ?_)
     conv=>whnf
     repeat (refine aa.of ?_;conv=>whnf)
     refine aH.no (by simp[ar];omega) ?_
     conv=>whnf
     repeat (refine aa.of ?_;conv=>whnf)
     refine⟨(i+1,d2,k2),⟨⟨hlt',hfo,hml he,hk2⟩,by dsimp only;omega⟩,?_,?_,?_⟩
     · conv=>whnf
       refine⟨?_,rfl⟩
       repeat (first | exact aw.nil | refine aw.any ?_ | refine aw.cons ?_ | refine aw.eq (by rw[wrap_i64 (by omega)];rfl) ?_)
     · conv=>whnf
       exact trivial
     · exact aq.of_le ⟨by simp[Fx.and],fun w hw=>⟨hw.1.1,hw.2⟩⟩
 · have hie:i=l.length:=by
    simp[au] at hlt
    omega
   subst hie
   rw[List.drop_length] at hfo
   have hfo:R=(d,0):=hfo
   rw[hfo]
   conv=>whnf
   repeat (refine aa.of ?_;conv=>whnf)
   exact⟨⟨fun w=>By w h d,[]⟩,aq.of_le ⟨by simp,fun w hw=>hw.2⟩,h,rfl,hh,rfl⟩
theorem iS (d:List UInt8) (h:Hd) (hh:h.Ok d.length) (hl:d.length≤1000000) (p:List UInt8) (hp:p.length≤200) (kind:Int) :
 af Tryz.prog 33 [h.v d.length,aC p,.int .i64 kind] (fun w=>By w h d) (qX (bE d p kind).1 (bE d p kind).2.1 (bE d p kind).2.2):=by
 have:=yP d h hh hl p hp kind
 rw[CH] at this
 exact this
theorem uV (d:List UInt8) (h:Hd) (hh:h.Ok d.length) (hl:d.length≤1000000) (n:Nat) (data:List UInt8) (kd:Hd) (hkd:kd.Ok data.length) (hdl:data.length≤1000000) :
 af Tryz.prog 34 [h.v d.length,.int .i64 (n:Int),.int .i64 0,kd.v data.length] (fun w=>By w h d∧By w kd data) (fJ (bQ d n data).1 (bQ d n data).2):=by
 have:=nf d h hh hl n 0 (by decide) 0 rfl data kd hkd hdl
 rw[v_] at this
 exact this
theorem rB (l:List Fl) (k:Hd) (hk:k.Ok l.length) (hl:l.length≤1000000) (hx : ∀ x∈l,x.path.length≤200∧x.data.length≤1000000∧x.h.Ok x.data.length) :
 af Tryz.prog 15 [k.v l.length] (fun w=>eC w k.a l) (fJ (dT iY l).1 (dT iY l).2):=by
 obtain⟨R,hR⟩ : ∃ R,R=dT iY l:=⟨_,rfl⟩
 rw[← hR]
 refine af.aF ab Tryz.func15 rfl (by decide) (n:=Tryz.f15.ntmps - 1) rfl rfl fun w0 av=>?_
 conv=>whnf
 have hfl:=pL.len
 have hfs:=uz.EE
 generalize iY=fd at *
 refine ak.pure hfs (fun w hw=>trivial) (fun v D hv=>?_)
 obtain⟨h0,rfl,hh0,rfl⟩:=hv
 conv=>whnf
 refine aI.loop ab (ι:=Nat×List UInt8×Hd) ([4,5,6,7,8,9,10]++List.range' 14 34) (fun x=>x.1≤l.length∧R=dT x.2.1 (l.drop x.1)∧x.2.1.length=12288∧x.2.2.Ok x.2.1.length)
  (fun x=>[(4,.v (x.2.2.v x.2.1.length)),(14,.v (.int .i64 (x.1:Int)))]) (fun _=>[]) (fun x=>⟨fun w=>eC w k.a l∧By w x.2.2 x.2.1,[]⟩)
  (fun x=>l.length - x.1) (0,fd,h0) ⟨Nat.zero_le _,hR,hfl,hh0⟩ ?_ rfl (aq.of_le ⟨by simp[Fx.and],fun w hw=>hw⟩) fun x hx'=>?_
 · conv=>whnf
   repeat (first | exact aw.nil | refine aw.any ?_ | refine aw.cons ?_)
 clear hR hfl hfs hh0
 obtain⟨i,d,h⟩:=x
 obtain⟨hi,hfo,hdl,hh⟩:=hx'
 dsimp only at hi hfo hdl hh ⊢
 conv=>whnf
 repeat (refine aa.of ?_;conv=>whnf)
 refine aH.split (fun hlt=>?_) (fun hlt=>?_)
 · have hlt':i<l.length:=by
    simp[au] at hlt
    omega
   obtain⟨x1,x2,x3⟩:=hx _ (List.getElem_mem hlt')
   have hcg:=nF hlt'
   have hby : ∀ w,eC w k.a l→By w l[i].h l[i].data:=fun w hw=>hw.2 _ (List.getElem_mem hlt')
   rw[List.drop_eq_getElem_cons hlt'] at hfo
   unfold dT at hfo
   have hmk:wu d l[i]=wu d l[i]:=rfl
   conv at hmk=>rhs;unfold wu
   generalize wu d l[i]=mk at *
   generalize l[i]=y at *
   obtain⟨p,dir,kh,data⟩:=y
   dsimp only at x1 x2 x3 hcg hby hmk
   cases dir
   · simp only[Bool.false_eq_true,if_false] at hmk
     have hml:=jE d p 1
     have hms:=iS d h hh (by omega) p x1 1
     generalize bE d p 1=mr at *
     obtain⟨n,d2,e⟩:=mr
     dsimp only at hmk hml hms
     conv=>whnf
     repeat (refine aa.of ?_;conv=>whnf)
     refine aj.ah (ai.index ab (t:=46) rfl rfl rfl (by omega) (by omega) hk.nil fun ad had=>?_)
     conv=>whnf
     repeat (refine aa.of ?_;conv=>whnf)
     refine aj.ah (ai.kC ab (t:=57) rfl rfl (ad:=ad) (k:=i*3) (L:=dN l) (m:=xZ ⟨p,false,kh,data⟩) (.fact fun w hw=>had ▸ hw.1.1) (by simp) hcg rfl ?_)
     conv=>whnf
     repeat (refine aa.of ?_;conv=>whnf)
     intro b0
     conv=>whnf
     repeat (refine aa.of ?_;conv=>whnf)
     refine ak.pure hms (fun w hw=>hw.2) (fun v D hv=>?_)
     obtain⟨k2,rfl,hk2,rfl⟩:=hv
     conv=>whnf
     repeat (refine aa.of ?_;conv=>whnf)
     refine aH.split (fun hq=>?_) (fun hq=>?_)
     · have he:e≠0:=by
        simp[ar] at hq
        omega
       rw[if_pos he] at hmk
       subst hmk
       rw[if_pos he] at hfo
       rw[hfo]
       conv=>whnf
       repeat (refine aa.of ?_;conv=>whnf)
       exact bN
     have he:e=0:=by
      simp[ar] at hq
      omega
     rw[if_neg (by omega)] at hmk
     have hwl:=sR (d:=d2) (n:=n) (data:=data)
     have hws:=uV d2 k2 hk2 (by have:=hml he;omega) n data kh x3 x2
     generalize bQ d2 n data=wr at *
     obtain⟨d3,e3⟩:=wr
     dsimp only at hmk hwl hws
     conv=>whnf
     repeat (refine aa.of ?_;conv=>whnf)
     refine ak.pure hws (fun w hw=>⟨hw.2,hby w hw.1.1⟩) (fun v D hv=>?_)
     obtain⟨k3,rfl,hk3,rfl⟩:=hv
     conv=>whnf
     repeat (refine aa.of ?_;conv=>whnf)
     refine aH.split (fun hq3=>?_) (fun hq3=>?_)
     · have he3:e3≠0:=by
        simp[ar] at hq3
        omega
       rw[if_pos he3] at hmk
       subst hmk
       rw[if_pos he3] at hfo
       rw[hfo]
       conv=>whnf
       repeat (refine aa.of ?_;conv=>whnf)
       exact bN
     have he3:e3=0:=by
      simp[ar] at hq3
      omega
     rw[if_neg (by omega)] at hmk
     subst hmk
     rw[if_neg (by simp)] at hfo
     conv=>whnf
     repeat (refine aa.of ?_;conv=>whnf)
     refine⟨(i+1,d3,k3),⟨⟨hlt',hfo,hwl he3,hk3⟩,by dsimp only;omega⟩,?_,?_,?_⟩
     · conv=>whnf
       refine⟨?_,rfl⟩
       repeat (first | exact aw.nil | refine aw.any ?_ | refine aw.cons ?_ | refine aw.eq (by rw[wrap_i64 (by omega)];rfl) ?_)
     · conv=>whnf
       exact trivial
     · exact aq.of_le ⟨by simp[Fx.and],fun w hw=>⟨hw.1.1.1,hw.2⟩⟩
   · simp only[if_true] at hmk
     have hml:=jE d p 2
     have hms:=iS d h hh (by omega) p x1 2
     generalize bE d p 2=mr at *
     obtain⟨n,d2,e⟩:=mr
     dsimp only at hmk hml hms
     conv=>whnf
     repeat (refine aa.of ?_;conv=>whnf)
     refine aj.ah (ai.index ab (t:=46) rfl rfl rfl (by omega) (by omega) hk.nil fun ad had=>?_)
     conv=>whnf
     repeat (refine aa.of ?_;conv=>whnf)
     refine aj.ah (ai.kC ab (t:=57) rfl rfl (ad:=ad) (k:=i*3) (L:=dN l) (m:=xZ ⟨p,true,kh,data⟩) (.fact fun w hw=>had ▸ hw.1.1) (by simp) hcg rfl ?_)
     conv=>whnf
     repeat (refine aa.of ?_;conv=>whnf)
     intro b0
     conv=>whnf
     repeat (refine aa.of ?_;conv=>whnf)
     refine ak.pure hms (fun w hw=>hw.2) (fun v D hv=>?_)
     obtain⟨k2,rfl,hk2,rfl⟩:=hv
     conv=>whnf
     repeat (refine aa.of ?_;conv=>whnf)
     refine aH.split (fun hq=>?_) (fun hq=>?_)
     · have he:e≠0:=by
        simp[ar] at hq
        omega
       rw[if_pos he] at hmk
       subst hmk
       rw[if_pos he] at hfo
       rw[hfo]
       conv=>whnf
       repeat (refine aa.of ?_;conv=>whnf)
       exact bN
     have he:e=0:=by
      simp[ar] at hq
      omega
     rw[if_neg (by omega)] at hmk
     subst hmk
     rw[if_neg (by simp)] at hfo
     conv=>whnf
     repeat (refine aa.of ?_;conv=>whnf)
     refine aH.no (by simp[ar];omega) ?_
     conv=>whnf
     repeat (refine aa.of ?_;conv=>whnf)
     refine⟨(i+1,d2,k2),⟨⟨hlt',hfo,hml he,hk2⟩,by dsimp only;omega⟩,?_,?_,?_⟩
     · conv=>whnf
       refine⟨?_,rfl⟩
       repeat (first | exact aw.nil | refine aw.any ?_ | refine aw.cons ?_ | refine aw.eq (by rw[wrap_i64 (by omega)];rfl) ?_)
     · conv=>whnf
       exact trivial
     · exact aq.of_le ⟨by simp[Fx.and],fun w hw=>⟨hw.1.1,hw.2⟩⟩
 · have hie:i=l.length:=by
    simp[au] at hlt
    omega
   subst hie
   rw[List.drop_length] at hfo
   have hfo:R=(d,0):=hfo
   rw[hfo]
   conv=>whnf
   repeat (refine aa.of ?_;conv=>whnf)
   exact⟨⟨fun w=>By w h d,[]⟩,aq.of_le ⟨by simp,fun w hw=>hw.2⟩,h,rfl,hh,rfl⟩
def xN (l:List Fl):Bool:=l.all (fun x=>decide (x.path.length≤100)&&decide (x.data.length≤400))&&decide (l.length≤8)
theorem zW (l:List Fl) (k:Hd) (hk:k.Ok l.length) (hl:l.length≤3000000000000000000):af Tryz.prog 7 [k.v l.length] (fun w=>eC w k.a l) (fun v F=>v = .bool (xN l)):=by
 refine af.aF ab Tryz.func7 rfl (by decide) (n:=Tryz.f7.ntmps - 1) rfl rfl fun w0 av=>?_
 conv=>whnf
 refine aI.loop ab (ι:=Nat) ([3]++List.range' 4 22) (fun x=>x≤l.length∧(l.take x).all (fun x=>decide (x.path.length≤100)&&decide (x.data.length≤400))=true)
  (fun x=>[(3,.v (.int .i64 (x:Int)))]) (fun _=>[]) (fun _=>⟨fun w=>eC w k.a l,[]⟩)
  (fun x=>l.length - x) 0 ⟨Nat.zero_le _,rfl⟩ ?_ rfl (aq.refl _) fun i hi=>?_
 · conv=>whnf
   repeat (first | exact aw.nil | refine aw.any ?_ | refine aw.cons ?_)
 obtain⟨hi,hall⟩:=hi
 conv=>whnf
 refine aH.split (fun hlt=>?_) (fun hlt=>?_)
 · have hlt':i<l.length:=by
    simp only[au,decide_eq_true_eq] at hlt
    omega
   obtain⟨c1,c2,c3⟩:=zd hlt'
   have hno : ¬ (l[i].path.length≤100∧l[i].data.length≤400)→xN l=false:=by
    intro hn
    unfold xN
    have:l.all (fun x=>decide (x.path.length≤100)&&decide (x.data.length≤400))=false:=by
     rw[List.all_eq_false]
     exact⟨_,List.getElem_mem hlt',by simpa using hn⟩
    rw[this]
    rfl
   conv=>whnf
   refine aj.ah (ai.index ab (t:=22) rfl rfl rfl (by omega) (by omega) hk.nil fun ad had=>?_)
   conv=>whnf
   refine aj.ah (ai.bS ab (t:=9) rfl rfl (ad:=ad) (k:=i*3) (L:=dN l) (v:=aC l[i].path) (.fact fun w hw=>had ▸ hw.1) (fun hs=>by rw[Addr.dE hs];congr 1) c1 ?_)
   conv=>whnf
   repeat (refine aa.of ?_;conv=>whnf)
   have hsz:(ByteArray.mk ⟨l[i].path⟩).size=l[i].path.length:=rfl
   refine aH.split (fun h1=>?_) (fun h1=>?_)
   · conv=>whnf
     repeat (refine aa.of ?_;conv=>whnf)
     repeat' (first
      | (refine aH.yes rfl ?_;conv=>whnf))
     have : ¬ l[i].path.length≤100:=by
      simp[bP,hsz] at h1
      omega
     exact⟨_,aq.refl _,by rw[hno fun h=>this h.1]⟩
   have h1':l[i].path.length≤100:=by
    simp[bP,hsz] at h1
    omega
   conv=>whnf
   repeat (refine aa.of ?_;conv=>whnf)
   refine aj.ah (ai.index ab (t:=22) rfl rfl rfl (by omega) (by omega) hk.nil fun ad had=>?_)
   conv=>whnf
   refine aj.ah (ai.bS ab (t:=23) rfl rfl (ad:=ad) (k:=i*3+2) (L:=dN l) (v:=l[i].h.v l[i].data.length) (.fact fun w hw=>had ▸ hw.1) (fun hs=>by rw[Addr.dE hs];congr 1) c3 ?_)
   conv=>whnf
   repeat (refine aa.of ?_;conv=>whnf)
   refine aH.split (fun h2=>?_) (fun h2=>?_)
   · conv=>whnf
     repeat (refine aa.of ?_;conv=>whnf)
     have : ¬ l[i].data.length≤400:=by
      simp[bP] at h2
      omega
     exact⟨_,aq.refl _,by rw[hno fun h=>this h.2]⟩
   · have h2':l[i].data.length≤400:=by
      simp[bP] at h2
      omega
     conv=>whnf
     repeat (refine aa.of ?_;conv=>whnf)
     refine⟨i+1,⟨⟨hlt',?_⟩,by dsimp only;omega⟩,?_,?_,aq.refl _⟩
     · rw[List.take_succ_eq_append_getElem hlt',List.all_append,hall]
       simp[h1',h2']
     · conv=>whnf
       refine⟨?_,rfl⟩
       repeat (first | exact aw.nil | refine aw.any ?_ | refine aw.cons ?_ | refine aw.eq (by rw[wrap_i64 (by omega)];rfl) ?_)
     · conv=>whnf
       exact trivial
 · have hie:i=l.length:=by
    simp only[au,decide_eq_false_iff_not] at hlt
    omega
   subst hie
   rw[List.take_length] at hall
   conv=>whnf
   refine⟨_,aq.refl _,?_⟩
   unfold xN
   rw[hall,Bool.true_and]
   show Value.bool (xH _ _)=_
   congr 1
   rw[eU,decide_eq_decide]
   omega
theorem zp (x:Fl) : ∀ v∈xZ x,aO v=true:=by
 intro v hv
 simp[xZ] at hv
 rcases hv with rfl | rfl | rfl<;>rfl
theorem u0 {d:List UInt8} {n:Nat} (h:a7 d n≠0):ay d n = []:=by
 unfold ay
 rw[if_pos h]
theorem wB (c:List UInt8) (off cnt:Nat):cut c (min off c.length) (min cnt (c.length - min off c.length))=(c.drop off).take cnt:=by
 unfold cut
 by_cases h:off≤c.length
 · rw[Nat.min_eq_left h]
   by_cases h2:cnt≤c.length - off
   · rw[Nat.min_eq_left h2]
   · rw[Nat.min_eq_right (by omega),List.take_of_length_le (l:=List.drop off c) (by simp),List.take_of_length_le (l:=List.drop off c) (by simp;omega)]
 · have hm:min off c.length=c.length:=Nat.min_eq_right (by omega)
   have hd:c.drop off = []:=List.drop_eq_nil_of_le (by omega)
   rw[hm,Nat.sub_self,Nat.min_zero,hd]
   simp
theorem wE (d:List UInt8) (h:Hd) (hh:h.Ok d.length) (hl:d.length≤1000000) (n:Nat) (bX cntN:Nat) (hoN:bX≤9223372036854775807) (hcN:cntN≤1000000000) (off cnt:Int) (ho:off=(bX:Int)) (hc:cnt=(cntN:Int)) :
 af Tryz.prog 49 [h.v d.length,.int .i64 (n:Int),.int .i64 off,.int .i64 cnt] (fun w=>By w h d) (fJ (((ay d n).drop bX).take cntN) (a7 d n)):=by
 have hge:=tg d n
 have hgi:=kP (d:=d) (m:=n)
 have hbad:=u0 (d:=d) (n:=n)
 refine af.aF ab Tryz.func49 rfl (by decide) (n:=Tryz.f49.ntmps - 4) rfl rfl fun w0 av=>?_
 conv=>whnf
 refine ak.pure (gV d h hh hl n) (fun w hw=>hw) (fun v D hv=>?_)
 unfold oD at hv
 by_cases h0:dM d=0
 rotate_left
 · rw[if_neg h0] at hv
   obtain⟨rfl,rfl⟩:=hv
   have he:a7 d n=dM d:=by
    unfold a7
    rw[if_pos h0]
   rw[hbad (by rw[he];exact h0),he,List.drop_nil,List.take_nil]
   generalize dM d=e at *
   conv=>whnf
   repeat (refine aa.of ?_;conv=>whnf)
   intro b11
   conv=>whnf
   repeat (refine aa.of ?_;conv=>whnf)
   refine aH.yes (by simp[ar];omega) ?_
   conv=>whnf
   repeat (refine aa.of ?_;conv=>whnf)
   exact bN
 rw[if_pos h0] at hv
 obtain⟨bd,bv,cap,Z,k,rfl,hcap,hk,rfl⟩:=hv
 have hge:=hge h0
 obtain⟨hd,hok⟩:=bl h0
 by_cases hg:a7 d n=0
 rotate_left
 · rw[hbad hg,List.drop_nil,List.take_nil]
   rw[← hge] at hg ⊢
   generalize eR (bB d) n=ge at *
   generalize ir (bB d) n=gi at *
   conv=>whnf
   repeat (refine aa.of ?_;conv=>whnf)
   intro b11
   conv=>whnf
   repeat (refine aa.of ?_;conv=>whnf)
   refine aH.yes (by simp[ar];omega) ?_
   conv=>whnf
   repeat (refine aa.of ?_;conv=>whnf)
   exact bN
 obtain⟨hn,hkn⟩:=(di h0).1 hg
 obtain⟨g1,g2⟩:=hgi hn hkn
 rw[g2,show iG (rk d n,rs d n,rb d n)=bg (rk d n) (rs d n) (rb d n) from rfl]
 have hcr:ay d n=(dC d (rb d n) 12).take (rs d n):=by
  unfold ay
  rw[if_neg (by rw[hg];simp)]
 have hf:=hok.form n hn
 have hsz:=fT hf
 have hvc:=sr bv (dX (.slice (some ⟨bd,0,none⟩) d.length cap) (bB d) (k.v 12)) ⟨some ⟨bd,0,none⟩,cap⟩ d rfl ⟨fun h=>(by cases h),hcap⟩ hd (rk d n) (rs d n) (rb d n) hsz (fun i hi=>eo hok hn hi) (fun i hi h0=>(bD hf i hi h0).2.2)
 rw[← hcr] at hvc
 have hcl:(ay d n).length≤1536:=by
  rw[hcr,List.length_take]
  omega
 generalize dX (.slice (some ⟨bd,0,none⟩) d.length cap) (bB d) (k.v 12)=V at *
 generalize ay d n=c at *
 rw[← hge]
 generalize rk d n=kk at *
 generalize rs d n=ss at *
 generalize rb d n=bb at *
 generalize eR (bB d) n=e at *
 have he:e=0:=g1
 conv=>whnf
 repeat (refine aa.of ?_;conv=>whnf)
 intro b11
 conv=>whnf
 repeat (refine aa.of ?_;conv=>whnf)
 refine aH.no (by simp[ar,he]) ?_
 conv=>whnf
 repeat (refine aa.of ?_;conv=>whnf)
 refine aH.no (by rw[ho,hc];simp[au]<;>omega) ?_
 conv=>whnf
 repeat (refine aa.of ?_;conv=>whnf)
 refine ak.c_ (F':=⟨fun w=>aB w (some ⟨bv,0,none⟩) V∧By w ⟨some ⟨bd,0,none⟩,cap⟩ d,[]⟩) (aq.lz.trans (aq.imp fun w hw=>?_)) ?_
 · obtain⟨-,h1,h2,-⟩:=hw
   refine⟨h2,?_⟩
   have h3:=aB.take h1 d.length
   rw[List.take_append_of_le_length (by simp),List.take_of_length_le (by simp)] at h3
   exact h3
 refine ak.pure hvc (fun w hw=>hw) (fun v D hv=>?_)
 obtain⟨kc,rfl,hkc,rfl⟩:=hv
 conv=>whnf
 repeat (refine aa.of ?_;conv=>whnf)
 have hlo:(if (c.length:Int)<off then (c.length:Int) else off)=((min bX c.length:Nat):Int):=by
  rw[ho]
  split<;>omega
 have hcc:=hkc.cap
 have hcd:=wB c bX cntN
 have hlm:min bX c.length≤c.length:=Nat.min_le_right _ _
 generalize min bX c.length=lo at *
 have hlen:min cntN (c.length - lo)≤c.length - lo:=Nat.min_le_right _ _
 have hmn : ∀ z:Int,z=((c.length - lo:Nat):Int)→(if z<cnt then z else cnt)=((min cntN (c.length - lo):Nat):Int):=fun z hz=>by
  rw[hc,hz]
  split<;>omega
 generalize min cntN (c.length - lo)=len at *
 have hcl2:(cut c lo len).length=len:=aZ (by omega)
 rw[hcd] at hcl2
 refine aj.ah (ai.pD ab (t:=23) rfl rfl rfl rfl lo len hlo ?_ (by omega) ?_)
 · rw[hlo,hmn _ (by rw[wrap_i64 (by omega)];omega),wrap_i64 (by omega)]
   omega
 conv=>whnf
 repeat (refine aa.of ?_;conv=>whnf)
 refine⟨⟨fun w=>By w (Hd.sub kc lo) ((c.drop bX).take cntN),[]⟩,aq.of_le ⟨by simp[Fx.and],fun w hw=>?_⟩,Hd.sub kc lo,by rw[he,hcl2];rfl,by rw[hcl2];exact Hd.eu hkc (by omega),rfl⟩
 have h5:=By.sub hw.2 (l:=lo) (k:=len) (by omega)
 rw[hcd] at h5
 exact h5
def dD (op node at0 n:Int) (k:Hd) (len:Nat):List Value:=[.int .i64 op,.int .i64 node,.int .i64 at0,.int .i64 n,k.v len]
theorem eM (x a b:Int):af Tryz.prog 31 [.int .i64 x,.int .i64 a,.int .i64 b] (fun _=>True) (fun v F=>v = .bool (decide (a≤x∧x≤b))):=by
 refine af.aF ab Tryz.func31 rfl (by decide) (n:=Tryz.f31.ntmps - 3) rfl rfl fun w0 av=>?_
 conv=>whnf
 repeat (refine aa.of ?_;conv=>whnf)
 generalize h1:gG x a=c1
 cases c1
 · conv=>whnf
   repeat (refine aa.of ?_;conv=>whnf)
   refine⟨_,aq.refl _,?_⟩
   have : ¬ (a≤x∧x≤b):=fun h=>by
    rw[bI,decide_eq_false_iff_not] at h1
    omega
   simp[this]
 · conv=>whnf
   repeat (refine aa.of ?_;conv=>whnf)
   refine⟨_,aq.refl _,?_⟩
   rw[bI,decide_eq_true_eq] at h1
   have h2:(a≤x∧x≤b)↔x≤b:=⟨fun h=>h.2,fun h=>⟨by omega,h⟩⟩
   simp[eU,h2]
theorem um (op node at0 n:Int) (k:Hd) (len:Nat) (h1:op=1) (h2:node=0) (h3:at0=0) (h4:n=0) (h5:len≤128):af Tryz.prog 13 [.agg ⟨dD op node at0 n k len⟩] (fun _=>True) (fun v F=>v = .bool true):=by
 refine af.aF ab Tryz.func13 rfl (by decide) (n:=Tryz.f13.ntmps - 1) rfl rfl fun w0 av=>?_
 conv=>whnf
 repeat (refine aa.of ?_;conv=>whnf)
 intro b1
 conv=>whnf
 repeat (refine aa.of ?_;conv=>whnf)
 refine aH.yes (by rw[h1];simp[aD]) ?_
 conv=>whnf
 repeat (refine aa.of ?_;conv=>whnf)
 generalize hq1:cN node 0=q1
 have e1:q1=true:=by rw[← hq1,h2];simp[aD]
 clear hq1
 subst e1
 conv=>whnf
 repeat (refine aa.of ?_;conv=>whnf)
 generalize hq2:cN n 0=q2
 have e2:q2=true:=by rw[← hq2,h4];simp[aD]
 clear hq2
 subst e2
 conv=>whnf
 repeat (refine aa.of ?_;conv=>whnf)
 refine ak.val (eM at0 0 7) (fun w hw=>trivial) (fun v D hv=>?_)
 have e3:decide (0≤at0∧at0≤7)=true:=by rw[h3];decide
 rw[e3] at hv
 subst hv
 conv=>whnf
 repeat (refine aa.of ?_;conv=>whnf)
 refine⟨_,aq.refl _,?_⟩
 have h6:((len:Nat):Int)≤128:=by omega
 simp[eU,h6]
theorem uN (op node at0 n:Int) (k:Hd) (len:Nat) (h1:op=2) (h2:0≤node∧node≤31) (h3:0≤at0) (h4:0≤n∧n≤1536) (h5:len=0):af Tryz.prog 13 [.agg ⟨dD op node at0 n k len⟩] (fun _=>True) (fun v F=>v = .bool true):=by
 refine af.aF ab Tryz.func13 rfl (by decide) (n:=Tryz.f13.ntmps - 1) rfl rfl fun w0 av=>?_
 conv=>whnf
 repeat (refine aa.of ?_;conv=>whnf)
 intro b1
 conv=>whnf
 repeat (refine aa.of ?_;conv=>whnf)
 refine aH.no (by rw[h1];simp[aD]) ?_
 conv=>whnf
 repeat (refine aa.of ?_;conv=>whnf)
 refine aH.yes (by rw[h1];simp[aD]) ?_
 conv=>whnf
 repeat (refine aa.of ?_;conv=>whnf)
 refine ak.val (eM node 0 31) (fun w hw=>trivial) (fun v D hv=>?_)
 have e3:decide (0≤node∧node≤31)=true:=decide_eq_true h2
 rw[e3] at hv
 subst hv
 conv=>whnf
 repeat (refine aa.of ?_;conv=>whnf)
 generalize hq1:gG at0 0=q1
 have e1:q1=true:=by rw[← hq1,bI,decide_eq_true_eq];exact h3
 clear hq1
 subst e1
 conv=>whnf
 repeat (refine aa.of ?_;conv=>whnf)
 refine ak.val (eM n 0 1536) (fun w hw=>trivial) (fun v D hv=>?_)
 have e4:decide (0≤n∧n≤1536)=true:=decide_eq_true h4
 rw[e4] at hv
 subst hv
 conv=>whnf
 repeat (refine aa.of ?_;conv=>whnf)
 refine⟨_,aq.refl _,?_⟩
 simp[h5,aD]
theorem xP (d:List UInt8) (h:Hd) (hh:h.Ok d.length) (hl:d.length≤1000000) (op node at0 n:Int) (k:Hd) (p:List UInt8) (hk:k.Ok p.length) (hp:p.length≤100) (ha:at0=0) (m:Nat) (hw:cA d p=(m,0)) (hg:a7 d m=0) (hkd:rk d m=1) :
 af Tryz.prog 22 [h.v d.length,.agg ⟨dD op node at0 n k p.length⟩] (fun w=>By w h d∧By w k p) (fun v F=>v = .tuple #[h.v d.length,.agg ⟨[.int .i64 (m:Int),.int .i64 1,.slice none 0 0]⟩,.int .i64 0]∧F=⟨fun w=>By w h d,[]⟩):=by
 have hws:=mo d h hh hl p (by omega)
 rw[hw] at hws
 have hgs:=jl d h hh hl (m:Int)
 obtain⟨k1,s1,b1,hL,hE⟩:=cJ d (m:Int)
 rw[hL,hg] at hgs
 have hk1:k1=1:=by
  have:=(hE hg).1
  rw[Int.toNat_natCast,hkd] at this
  exact this
 clear hE hL hw hg hkd
 dsimp only at hws
 obtain⟨z1,hz1⟩ : ∃ z:Nat,z=0:=⟨_,rfl⟩
 obtain⟨z2,hz2⟩ : ∃ z:Nat,z=0:=⟨_,rfl⟩
 rw[← hz1] at hws
 rw[← hz2] at hgs
 refine af.aF ab Tryz.func22 rfl (by decide) (n:=Tryz.f22.ntmps - 2) rfl rfl fun w0 av=>?_
 conv=>whnf
 repeat (refine aa.of ?_;conv=>whnf)
 intro b3
 conv=>whnf
 repeat (refine aa.of ?_;conv=>whnf)
 intro b5
 conv=>whnf
 repeat (refine aa.of ?_;conv=>whnf)
 refine aj.ah (ai.bytes ab (t:=23) (u:=9) rfl rfl rfl rfl rfl rfl (l:=p) (.fact fun w hw=>hw.2) rfl ?_)
 conv=>whnf
 repeat (refine aa.of ?_;conv=>whnf)
 refine ak.val hws (fun w hw=>hw.1) (fun v D hv=>?_)
 unfold fc at hv
 subst hv
 conv=>whnf
 repeat (refine aa.of ?_;conv=>whnf)
 generalize hq1:cN (z1:Int) 8=q1
 have e1:q1=false:=by rw[← hq1,hz1];simp[aD]
 clear hq1
 subst e1
 conv=>whnf
 repeat (refine aa.of ?_;conv=>whnf)
 repeat' (first
  | (refine aH.no rfl ?_;conv=>whnf))
 refine aH.no (by rw[hz1];simp[ar]) ?_
 conv=>whnf
 repeat (refine aa.of ?_;conv=>whnf)
 refine ak.val hgs (fun w hw=>hw.1) (fun v D hv=>?_)
 subst hv
 conv=>whnf
 repeat (refine aa.of ?_;conv=>whnf)
 intro b13
 conv=>whnf
 repeat (refine aa.of ?_;conv=>whnf)
 generalize hq2:cN (k1:Int) 2=q2
 have e2:q2=false:=by rw[← hq2,hk1];simp[aD]
 clear hq2
 subst e2
 conv=>whnf
 repeat (refine aa.of ?_;conv=>whnf)
 repeat' (first
  | (refine aH.no rfl ?_;conv=>whnf))
 have hb0:Sx.bits .and .i64 0 2=0:=by decide
 refine aH.no (by rw[ha,hb0];simp[ar]) ?_
 conv=>whnf
 repeat (refine aa.of ?_;conv=>whnf)
 refine aI.draw ab mixed rfl rfl ?_
 conv=>whnf
 repeat' (first
  | (refine And.intro ?_ ?_<;>conv=>whnf)
  | (refine ax.same rfl ?_;conv=>whnf)
  | (refine ax.row rfl ?_;conv=>whnf)
  | (refine ax.call rfl ?_;conv=>whnf)
  | (refine bG.of ?_;conv=>whnf)
  | (refine aa.of ?_;conv=>whnf)
  | (refine ax.mk ?_ ?_;(focus (first | exact aq.refl _ | exact aq.left _ _ | exact aq.of_le ⟨List.sublist_append_left _ _,fun w h=>h⟩ | exact aq.of_le ⟨List.Sublist.refl _,fun w h=>h.1⟩));conv=>whnf))
 all_goals
  subst hk1 hz1
  exact⟨⟨fun w=>By w h d,[]⟩,aq.of_le ⟨List.Sublist.refl _,fun w hw=>hw.1⟩,rfl,rfl⟩
theorem yE (d:List UInt8) (h:Hd) (hh:h.Ok d.length) (hl:d.length≤1000000) (m:Nat) (hg:a7 d m=0) (hkd:rk d m=1) :
 af Tryz.prog 48 [h.v d.length,.int .i64 (m:Int)] (fun w=>By w h d) (fun v F=>v = .tuple #[.agg ⟨na d m⟩,.int .i64 0]):=by
 have hgs:=jl d h hh hl (m:Int)
 obtain⟨k1,s1,b1,hL,hE⟩:=cJ d (m:Int)
 rw[hL,hg] at hgs
 have hk1:k1=1:=by
  have:=(hE hg).1
  rw[Int.toNat_natCast,hkd] at this
  exact this
 rw[hL]
 clear hE hL hg hkd
 obtain⟨z2,hz2⟩ : ∃ z:Nat,z=0:=⟨_,rfl⟩
 rw[← hz2] at hgs
 refine af.aF ab Tryz.func48 rfl (by decide) (n:=Tryz.f48.ntmps - 2) rfl rfl fun w0 av=>?_
 conv=>whnf
 repeat (refine aa.of ?_;conv=>whnf)
 intro b4
 conv=>whnf
 repeat (refine aa.of ?_;conv=>whnf)
 refine ak.val hgs (fun w hw=>hw) (fun v D hv=>?_)
 subst hv
 conv=>whnf
 repeat (refine aa.of ?_;conv=>whnf)
 intro b6
 conv=>whnf
 repeat (refine aa.of ?_;conv=>whnf)
 generalize hq1:cN (z2:Int) 0=q1
 have e1:q1=true:=by rw[← hq1,hz2];simp[aD]
 clear hq1
 subst e1
 conv=>whnf
 repeat (refine aa.of ?_;conv=>whnf)
 refine aH.no (by rw[hk1];simp[aD]) ?_
 conv=>whnf
 repeat (refine aa.of ?_;conv=>whnf)
 subst hz2
 exact⟨_,aq.refl _,rfl⟩
theorem oS (d:List UInt8) (h:Hd) (hh:h.Ok d.length) (hl:d.length≤1000000) (op:Int) (m bX cntN:Nat) (k:Hd) (len:Nat) (hof:bX≤9223372036854775807) (hcn:cntN≤1000000000) (hg:a7 d m=0) (hkd:rk d m=1) :
 af Tryz.prog 23 [h.v d.length,.agg ⟨dD op (m:Int) (bX:Int) (cntN:Int) k len⟩] (fun w=>By w h d) (fun v F=>∃ kb:Hd,v = .tuple #[h.v d.length,.agg ⟨[.int .i64 ((((ay d m).drop bX).take cntN).length:Int),.int .i64 0,kb.v (((ay d m).drop bX).take cntN).length]⟩,.int .i64 0]∧
  kb.Ok (((ay d m).drop bX).take cntN).length∧F=⟨fun w=>By w h d∧By w kb (((ay d m).drop bX).take cntN),[]⟩):=by
 have hfs:=yE d h hh hl m hg hkd
 have hrs:=wE d h hh hl m bX cntN hof hcn (bX:Int) (cntN:Int) rfl rfl
 rw[hg] at hrs
 generalize ((ay d m).drop bX).take cntN=c at *
 obtain⟨k1,s1,b1,hL,hE⟩:=cJ d (m:Int)
 rw[hL] at hfs
 clear hg hkd hL hE
 obtain⟨z1,hz1⟩ : ∃ z:Int,z=0:=⟨_,rfl⟩
 rw[show(fun(v:Value) (F:Fx)=>v = .tuple #[.agg ⟨bg k1 s1 b1⟩,.int .i64 0])=fun v F=>v = .tuple #[.agg ⟨bg k1 s1 b1⟩,.int .i64 z1] by rw[hz1]] at hfs
 obtain⟨z2,hz2⟩ : ∃ z:Nat,z=0:=⟨_,rfl⟩
 rw[← hz2] at hrs
 refine af.aF ab Tryz.func23 rfl (by decide) (n:=Tryz.f23.ntmps - 2) rfl rfl fun w0 av=>?_
 conv=>whnf
 repeat (refine aa.of ?_;conv=>whnf)
 intro b3
 conv=>whnf
 repeat (refine aa.of ?_;conv=>whnf)
 intro b5
 conv=>whnf
 repeat (refine aa.of ?_;conv=>whnf)
 refine ak.val hfs (fun w hw=>hw) (fun v D hv=>?_)
 subst hv
 conv=>whnf
 repeat (refine aa.of ?_;conv=>whnf)
 intro b7
 conv=>whnf
 repeat (refine aa.of ?_;conv=>whnf)
 refine aH.no (by rw[hz1];simp[ar]) ?_
 conv=>whnf
 repeat (refine aa.of ?_;conv=>whnf)
 refine ak.pure hrs (fun w hw=>hw) (fun v D hv=>?_)
 obtain⟨kb,rfl,hkb,rfl⟩:=hv
 conv=>whnf
 repeat (refine aa.of ?_;conv=>whnf)
 subst hz2
 exact⟨⟨fun w=>By w h d∧By w kb c,[]⟩,aq.of_le ⟨by simp[Fx.and],fun w hw=>hw⟩,kb,rfl,hkb,rfl⟩
end Go.Proofs.YtfeoedkmndkbjaaGreatDoor
namespace Go.Sx
open Go
set_option linter.unusedVariables false
section
variable {P:Program} {aK:fk} {w0:World} {R:Nat→Nat→Prop} {av:Nat→Prop} {bs:List (Nat×Nat)} {cs:List (List Value)} {F:Fx}
theorem aj.xl (hT:bn P aK) {t u e:TypeId} {ti tu te:TI} (ht:look aK t=some ti) (hu:look aK u=some tu) (hk:tu.k = .slice e) (he:look aK e=some te) (hb8:te.k = .int .u8) {s:List UInt8} {K:KV}
 (h : ∀ k:Hd,k.Ok s.length→K (k.v s.length) bs cs (F.and ⟨fun w=>By w k s,[]⟩)):aj P w0 R av (convert t u (aC s)) bs cs F K:=by
 refine bT.2 fun w hst=>?_
 obtain⟨i1,d1,z1,p1,p2,p3,p4,p5,p6,p7,p8⟩:=aA (hT _ _ ht)
 obtain⟨i3,d3,z3,o1,o2,o3,o4,o5,o6,o7,o8⟩:=aA (hT _ _ hu)
 obtain⟨i2,d2,z2,q1,q2,q3,q4,q5,q6,q7,q8⟩:=aA (hT _ _ he)
 rw[o4] at hk
 rw[q4] at hb8
 obtain rfl:=cO hk
 obtain rfl:=yM hb8
 have hrun:=Lib.run_convert_string_bytes (P:=P) w t u e ⟨s.toArray⟩ p2 o2 q2
 have hsz:(ByteArray.mk s.toArray).size=s.length:=by simp[ByteArray.size]
 have hge:=grownCap_ge w s.length 0 e
 have hcell:=fun j hj=>Lib.bytesWorld_cell w e ⟨s.toArray⟩ j hj
 have hnew:=Lib.bytesWorld_at_new w e ⟨s.toArray⟩
 have hs2:=Lib.bytesWorld_size w e ⟨s.toArray⟩
 have hk:fE w (Lib.bytesWorld w e ⟨s.toArray⟩):=d_ rfl rfl rfl (by rw[hs2];omega) fun b hb=>Lib.bytesWorld_at_old w e _ b hb
 rw[hsz] at hrun hcell
 have hby : ∀ w',w'.heap[w.heap.size]? = (Lib.bytesWorld w e ⟨s.toArray⟩).heap[w.heap.size]?→By w' ⟨some ⟨w.heap.size,0,none⟩,grownCap w s.length 0 e⟩ s:=fun w' hw=>.inr ⟨rfl,_,_,_,hw.trans hnew,fun j hj=>by
  rw[List.length_map] at hj
  simp[Lib.bytesCells,ao,Array.getElem?_append,hj]⟩
 have hd:Ai (Av av bs F.rs) w.heap.size (Lib.bytesWorld w e ⟨s.toArray⟩) ⟨fun w'=>By w' ⟨some ⟨w.heap.size,0,none⟩,grownCap w s.length 0 e⟩ s,[]⟩:=
  ⟨fun r hr=>(by cases hr),.nil,Holds.block w.heap.size (by rw[hs2];omega) (fun hx=>hx.elim (fun hx=>by have:=DA hst _ hx;omega) fun⟨r,hr,_⟩=>(by cases hr)) hby⟩
 exact⟨_,_,[],cs,_,hrun,by rw[List.append_nil];exact hst.kept hk hd,by rw[List.append_nil];exact h ⟨some ⟨w.heap.size,0,none⟩,grownCap w s.length 0 e⟩ ⟨fun h=>(by cases h),hge⟩⟩
end
end Go.Sx
namespace Go.Proofs.YtfeoedkmndkbjaaGreatDoor
open Go Go.Sx
set_option maxRecDepth 100000
set_option maxHeartbeats 4000000
set_option linter.unusedVariables false
set_option linter.unusedSimpArgs false
structure Rs where
 next:List UInt8
 val:Int
 kind:Int
 data:List UInt8
 e:Nat
def Rs.err (e:Nat):Rs:=⟨[],0,0,[],e⟩
def cZ (r:Rs) (v:Value) (F:Fx):Prop:=
 if r.e=0 then ∃ h2 kb:Hd,v = .tuple #[h2.v r.next.length,.agg ⟨[.int .i64 r.val,.int .i64 r.kind,kb.v r.data.length]⟩,.int .i64 0]∧h2.Ok r.next.length∧kb.Ok r.data.length∧F=⟨fun w=>By w h2 r.next∧By w kb r.data,[]⟩
 else ∃ (h2 kb:Hd) (n m:Nat) (a b:Int),v = .tuple #[h2.v n,.agg ⟨[.int .i64 a,.int .i64 b,kb.v m]⟩,.int .i64 (r.e:Int)]
theorem dG {r:Rs} (h:r.e≠0) (h2 kb:Hd) (n m:Nat) (a b:Int) (F:Fx):cZ r (.tuple #[h2.v n,.agg ⟨[.int .i64 a,.int .i64 b,kb.v m]⟩,.int .i64 (r.e:Int)]) F:=by
 unfold cZ
 rw[if_neg h]
 exact⟨h2,kb,n,m,a,b,rfl⟩
theorem vW (d:List UInt8) (h:Hd) (hh:h.Ok d.length) (hl:d.length≤1000000) (n:Int) :
 af Tryz.prog 51 [h.v d.length,.int .i64 n] (fun w=>By w h d) (Dz (iM d n).1 (iM d n).2):=by
 rw[← list_eq]
 refine(yw d h hh hl n).weaken fun v F hv=>?_
 obtain⟨a,cap,C,hO,rfl,rfl⟩:=hv
 exact⟨⟨fun w=>b_ w ⟨a,cap⟩ (kX d n).1,[]⟩,(Go.Sx.Own.gives hO).trans (aq.imp fun w hw=>hw.2),⟨a,cap⟩,rfl,hO.hd,rfl⟩
theorem oX (d:List UInt8) (n:Int):(iM d n).1.length≤8∧∀ s∈(iM d n).1,s.length≤14:=by
 rw[← list_eq]
 unfold kX
 by_cases h0:oy d n=0
 rotate_left
 · rw[if_neg h0]
   exact⟨by simp,fun s hs=>by cases hs⟩
 rw[if_pos h0]
 obtain⟨h38,m,rfl,hm⟩:=n5 h0
 have hH : ∀ n:Nat,((fun _=>⟨some ⟨0,0,none⟩,8⟩:Nat→Hd) n).Ok 8:=fun n=>⟨fun h=>(by cases h),Nat.le_refl _⟩
 have hT:=fp d hH
 have hname:=gE d (fun _=>⟨some ⟨0,0,none⟩,8⟩) m
 have hlen:=hT.len m
 have hEe:(T0 d).E (m:Int).toNat=(aG d (fun _=>⟨some ⟨0,0,none⟩,8⟩)).E m:=rfl
 rw[hEe]
 obtain⟨a,b,c⟩:=yU _ [] List.nodup_nil (by simp) hname
 refine⟨?_,fun s hs=>b s ((jM _).mem_iff.1 hs)⟩
 rw[ta]
 unfold fM
 simp at c
 omega
def iO (L:List (List UInt8)):List UInt8:=L.flatMap fun s=>s ++ [10]
theorem rM {L:List (List UInt8)} {i:Nat} (h:i<L.length):iO (L.take (i+1))=iO (L.take i)++(L[i] ++ [10]):=by
 unfold iO
 rw[List.take_succ_eq_append_getElem h,List.flatMap_append]
 simp
theorem sW {L:List (List UInt8)} (h : ∀ s∈L,s.length≤14):(iO L).length≤15*L.length:=by
 induction L with
 | nil=>simp[iO]
 | cons s L ih=>
  have h1:=ih fun x hx=>h x (List.mem_cons_of_mem _ hx)
  have h2:=h s (List.mem_cons_self ..)
  unfold iO at h1 ⊢
  rw[List.flatMap_cons,List.length_append,List.length_append,List.length_cons]
  simp only[List.length_cons,List.length_nil] at *
  omega
noncomputable def eW (d p:List UInt8):Rs:=if (cA d p).2≠0 then .err (cA d p).2 else ⟨d,0,0,iO (iM d (cA d p).1).1,(iM d (cA d p).1).2⟩
theorem wL (d:List UInt8) (h:Hd) (hh:h.Ok d.length) (hl:d.length≤1000000) (op node at0 n:Int) (k:Hd) (p:List UInt8) (hk:k.Ok p.length) (hp:p.length≤200) :
 af Tryz.prog 27 [h.v d.length,.agg ⟨dD op node at0 n k p.length⟩] (fun w=>By w h d∧By w k p) (cZ (eW d p)):=by
 have hws:=mo d h hh hl p hp
 obtain⟨R,hR⟩ : ∃ R,R=eW d p:=⟨_,rfl⟩
 rw[← hR]
 unfold eW at hR
 have hls:=vW d h hh hl (cA d p).1
 obtain⟨hL8,hL14⟩:=oX d (cA d p).1
 generalize (cA d p).2=we at *
 generalize (cA d p).1=wn at *
 refine af.aF ab Tryz.func27 rfl (by decide) (n:=Tryz.f27.ntmps - 2) rfl rfl fun w0 av=>?_
 conv=>whnf
 repeat (refine aa.of ?_;conv=>whnf)
 intro b3
 conv=>whnf
 repeat (refine aa.of ?_;conv=>whnf)
 intro b5
 conv=>whnf
 repeat (refine aa.of ?_;conv=>whnf)
 refine aj.ah (ai.bytes ab (t:=23) (u:=9) rfl rfl rfl rfl rfl rfl (l:=p) (.fact fun w hw=>hw.2) rfl ?_)
 conv=>whnf
 repeat (refine aa.of ?_;conv=>whnf)
 refine ak.val hws (fun w hw=>hw.1) (fun v D hv=>?_)
 unfold fc at hv
 subst hv
 conv=>whnf
 repeat (refine aa.of ?_;conv=>whnf)
 refine aH.split (fun hq=>?_) (fun hq=>?_)
 · have hq':we≠0:=by
    simp[ar] at hq
    omega
   rw[if_pos hq'] at hR
   subst hR
   conv=>whnf
   repeat (refine aa.of ?_;conv=>whnf)
   exact⟨_,aq.refl _,dG (r:=.err we) hq' Hd.nil Hd.nil 0 0 0 0 _⟩
 have hq' : ¬ we≠0:=by
  simp[ar] at hq
  omega
 rw[if_neg hq'] at hR
 generalize iM d wn=LE at *
 obtain⟨L,e⟩:=LE
 dsimp only at hls hR hL8 hL14
 conv=>whnf
 repeat (refine aa.of ?_;conv=>whnf)
 refine ak.pure hls (fun w hw=>hw.1) (fun v D hv=>?_)
 obtain⟨kl,rfl,hkl,rfl⟩:=hv
 conv=>whnf
 repeat (refine aa.of ?_;conv=>whnf)
 refine aj.c_ (F':=⟨fun w=>By w h d∧b_ w kl L,[]⟩) (aq.of_le ⟨by simp[Fx.and],fun w hw=>⟨hw.1.1,hw.2⟩⟩) ?_
 refine aj.Cj ab (e:=91) (eb:=5) rfl rfl fun wA hD hS h0=>?_
 dsimp only at hD hS h0 ⊢
 generalize hSv:Av av [(b3,0),(b5,0)] []=S at *
 have hjl : ∀ i,i≤L.length→(iO (L.take i)).length≤200:=fun i hi=>by
  have:=sW (L:=L.take i) fun s hs=>hL14 s (List.mem_of_mem_take hs)
  rw[List.length_take] at this
  omega
 conv=>whnf
 repeat (refine aa.of ?_;conv=>whnf)
 refine aI.loop ab (ι:=Nat) ([12,33]++List.range' 34 8) (fun x=>x≤L.length) (fun x=>[(33,.v (.int .i64 (x:Int)))])
  (fun _=>[dD op node at0 n k p.length,[.int .i64 0,.int .i64 0,.slice none 0 0]]) (fun x=>⟨AK wA S 91 5 (iO (L.take x)),[]⟩)
  (fun x=>L.length - x) 0 (Nat.zero_le _) ?_ rfl (aq.refl _) fun i hi=>?_
 · conv=>whnf
   repeat (first | exact aw.nil | refine aw.any ?_ | refine aw.cons ?_)
 conv=>whnf
 repeat (refine aa.of ?_;conv=>whnf)
 refine aH.split (fun hlt=>?_) (fun hlt=>?_)
 · have hlt':i<L.length:=by
    simp only[au,decide_eq_true_eq] at hlt
    omega
   have hjn:=rM hlt'
   have hjl1:=hjl i hi
   have hs14:=hL14 L[i] (List.getElem_mem hlt')
   conv=>whnf
   repeat (refine aa.of ?_;conv=>whnf)
   refine aj.ah (ai.index ab (t:=51) rfl rfl rfl (by omega) (by omega) hkl.nil fun ad1 had1=>?_)
   conv=>whnf
   repeat (refine aa.of ?_;conv=>whnf)
   refine aj.ah (ai.load ab (t:=9) rfl rfl (ad:=ad1) (k:=i*1) (L:=L.map aC) (v:=aC L[i]) (.fact fun w hw=>had1 ▸ (hD w hw.1).2) rfl (by simp[hlt']) ?_)
   generalize L[i]=s at *
   conv=>whnf
   repeat (refine aa.of ?_;conv=>whnf)
   refine aj.ah (ai.oz (l:=s) (m:=[10]) (by simp;omega) ?_)
   conv=>whnf
   repeat (refine aa.of ?_;conv=>whnf)
   subst hSv
   refine ak.Cg hS h0 (by simp;omega) fun v=>?_
   rw[← hjn]
   conv=>whnf
   repeat (refine aa.of ?_;conv=>whnf)
   refine⟨i+1,⟨hlt',by dsimp only;omega⟩,?_,?_,aq.refl _⟩
   · conv=>whnf
     refine⟨?_,rfl⟩
     repeat (first | exact aw.nil | refine aw.any ?_ | refine aw.cons ?_ | refine aw.eq (by rw[wrap_i64 (by omega)];rfl) ?_)
   · conv=>whnf
     exact⟨⟨rfl,rfl⟩,⟨rfl,rfl⟩,trivial⟩
 · have hie:i=L.length:=by
    simp only[au,decide_eq_false_iff_not] at hlt
    omega
   subst hie
   rw[List.take_length]
   generalize iO L=J at *
   subst hSv
   conv=>whnf
   repeat (refine aa.of ?_;conv=>whnf)
   refine ak.zU hS h0 ?_
   conv=>whnf
   repeat (refine aa.of ?_;conv=>whnf)
   refine aj.xl ab (t:=9) (u:=23) rfl rfl rfl rfl rfl fun kb hkb=>?_
   conv=>whnf
   repeat (refine aa.of ?_;conv=>whnf)
   all_goals
    subst hR
    refine⟨⟨fun w=>By w h d∧By w kb J,[]⟩,aq.of_le ⟨by simp[Fx.and],fun w hw=>⟨(hD w hw.1).1,hw.2⟩⟩,?_⟩
    by_cases he:e=0
    · unfold cZ
      rw[if_pos he]
      exact⟨h,kb,by rw[he];rfl,hh,hkb,rfl⟩
    · exact dG (r:=⟨d,0,0,J,e⟩) he h kb _ _ 0 0 _
theorem x8 (d:List UInt8) (h:Hd) (hh:h.Ok d.length) (hl:d.length≤1000000) (p:List UInt8) (hp:p.length≤200) :
 af Tryz.prog 61 [h.v d.length,aC p] (fun w=>By w h d) (fJ (eW d p).data (eW d p).e):=by
 have hws:=oR d h hh hl p hp
 obtain⟨R,hR⟩ : ∃ R,R=eW d p:=⟨_,rfl⟩
 rw[← hR]
 unfold eW at hR
 have hls:=v8 d h hh hl (cA d p).1
 obtain⟨hL8,hL14⟩:=oX d (cA d p).1
 generalize (cA d p).2=we at *
 generalize (cA d p).1=wn at *
 refine af.aF ab Tryz.func61 rfl (by decide) (n:=Tryz.f61.ntmps - 2) rfl rfl fun w0 av=>?_
 conv=>whnf
 repeat (refine aa.of ?_;conv=>whnf)
 refine ak.val hws (fun w hw=>hw) (fun v D hv=>?_)
 unfold fc at hv
 subst hv
 conv=>whnf
 repeat (refine aa.of ?_;conv=>whnf)
 refine aH.split (fun hq=>?_) (fun hq=>?_)
 · have hq':we≠0:=by
    simp[ar] at hq
    omega
   rw[if_pos hq'] at hR
   subst hR
   conv=>whnf
   repeat (refine aa.of ?_;conv=>whnf)
   exact bN
 have hq' : ¬ we≠0:=by
  simp[ar] at hq
  omega
 rw[if_neg hq'] at hR
 generalize iM d wn=LE at *
 obtain⟨L,e⟩:=LE
 dsimp only at hls hR hL8 hL14
 have hjl : ∀ i,i≤L.length→(iO (L.take i)).length≤200:=fun i hi=>by
  have:=sW (L:=L.take i) fun s hs=>hL14 s (List.mem_of_mem_take hs)
  rw[List.length_take] at this
  omega
 conv=>whnf
 repeat (refine aa.of ?_;conv=>whnf)
 refine ak.pure hls (fun w hw=>hw) (fun v D hv=>?_)
 obtain⟨kl,rfl,hkl,rfl⟩:=hv
 conv=>whnf
 repeat (refine aa.of ?_;conv=>whnf)
 refine aI.loop ab (ι:=Nat) ([9,10]++List.range' 26 13) (fun x=>x≤L.length) (fun x=>[(9,.v (aC (iO (L.take x)))),(10,.v (.int .i64 (x:Int)))])
  (fun _=>[]) (fun x=>⟨fun w=>b_ w kl L,[]⟩) (fun x=>L.length - x) 0 (Nat.zero_le _) ?_ rfl (aq.of_le ⟨by simp[Fx.and],fun w hw=>hw.2⟩) fun i hi=>?_
 · conv=>whnf
   repeat (first | exact aw.nil | refine aw.any ?_ | refine aw.cons ?_)
 conv=>whnf
 repeat (refine aa.of ?_;conv=>whnf)
 refine aH.split (fun hlt=>?_) (fun hlt=>?_)
 · have hlt':i<L.length:=by
    simp only[au,decide_eq_true_eq] at hlt
    omega
   have hjn:=rM hlt'
   have hjl1:=hjl i hi
   have hs14:=hL14 L[i] (List.getElem_mem hlt')
   generalize iO (L.take i)=J at *
   conv=>whnf
   repeat (refine aa.of ?_;conv=>whnf)
   refine aj.ah (ai.index ab (t:=51) rfl rfl rfl (by omega) (by omega) hkl.nil fun ad1 had1=>?_)
   conv=>whnf
   repeat (refine aa.of ?_;conv=>whnf)
   refine aj.ah (ai.load ab (t:=9) rfl rfl (ad:=ad1) (k:=i*1) (L:=L.map aC) (v:=aC L[i]) (.fact fun w hw=>had1 ▸ hw) rfl (by simp[hlt']) ?_)
   generalize L[i]=s at *
   conv=>whnf
   repeat (refine aa.of ?_;conv=>whnf)
   refine aj.ah (ai.oz (l:=J) (m:=s) (by omega) ?_)
   conv=>whnf
   repeat (refine aa.of ?_;conv=>whnf)
   refine aj.ah (ai.oz (l:=J++s) (m:=[10]) (by simp;omega) ?_)
   rw[List.append_assoc,← hjn]
   conv=>whnf
   repeat (refine aa.of ?_;conv=>whnf)
   refine⟨i+1,⟨hlt',by dsimp only;omega⟩,?_,?_,aq.refl _⟩
   · conv=>whnf
     refine⟨?_,rfl⟩
     repeat (first | exact aw.nil | refine aw.any ?_ | refine aw.cons ?_ | refine aw.eq (by rw[wrap_i64 (by omega)];rfl) ?_)
   · conv=>whnf
     exact trivial
 · have hie:i=L.length:=by
    simp only[au,decide_eq_false_iff_not] at hlt
    omega
   subst hie
   rw[List.take_length]
   generalize iO L=J at *
   subst hR
   conv=>whnf
   repeat (refine aa.of ?_;conv=>whnf)
   refine aj.xl ab (t:=9) (u:=23) rfl rfl rfl rfl rfl fun kb hkb=>?_
   conv=>whnf
   repeat (refine aa.of ?_;conv=>whnf)
   exact⟨⟨fun w=>By w kb J,[]⟩,aq.of_le ⟨by simp[Fx.and],fun w hw=>hw.2⟩,kb,rfl,hkb,rfl⟩
noncomputable def k7 (d:List UInt8) (n:Nat):List UInt8:=cS (cw d (rb d n) 12) n (rk d n) 0 (fun _=>0)
def zb (b:Nat→Nat) (i j:Nat):Nat:=if j<i then 0 else b j
theorem Ca {k s:Nat} {b:Nat→Nat} {i:Nat} (hi:i<12):laid (bg k s (zb b i)) (2+i) [aE 0]=bg k s (zb b (i+1)):=by
 have:=ju (k:=k) (s:=s) (b:=zb b i) hi 0
 rw[this]
 congr 1
 funext j
 unfold zb
 by_cases h1:j=i
 · rw[if_pos h1,if_pos (by omega)]
 · rw[if_neg h1]
   by_cases h2:j<i
   · rw[if_pos h2,if_pos (by omega)]
   · rw[if_neg h2,if_neg (by omega)]
theorem B8 (k s:Nat) (b:Nat→Nat):bg k s (zb b 12)=bg k s (fun _=>0):=by simp[bg,zb]
theorem Da {k s:Nat} {b:Nat→Nat} {i:Nat} (h:b i=0):bg k s (zb b i)=bg k s (zb b (i+1)):=by
 congr 1
 funext j
 unfold zb
 by_cases h1:j=i
 · rw[h1,if_neg (by omega),if_pos (by omega),h]
 · by_cases h2:j<i
   · rw[if_pos h2,if_pos (by omega)]
   · rw[if_neg h2,if_neg (by omega)]
theorem ve (d:List UInt8) (h:Hd) (hh:h.Ok d.length) (hl:d.length≤1000000) (n:Nat) (hg:a7 d (n:Int)=0) (hk2:rk d n≠2) (z:Int) (hz:z=0) :
 af Tryz.prog 107 [h.v d.length,.int .i64 (n:Int),.int .i64 z] (fun w=>By w h d) (fJ (k7 d n) 0):=by
 have hgs:=dA d h hh hl n
 obtain⟨k,s,b,hL,hE⟩:=cJ d n
 rw[hL] at hgs
 obtain⟨hd,hok,m,hm,hm32,hrk⟩:=cd hg
 have hm:n=m:=by omega
 subst hm
 obtain⟨hk,hs,hb⟩:=hE hg
 rw[Int.toNat_natCast] at hk hs hb
 have hF:k7 d n=cS (cw d b 12) n k 0 (fun _=>0):=by
  unfold k7
  rw[← hb,← hk]
 have hbl : ∀ i,i<12→b i<96:=by
  intro i hi
  by_cases hbi:b i=0
  · omega
  · rw[hb] at hbi ⊢
    exact(bD (hok.form n hm32) i hi hbi).2.1
 have hk256:k<256:=by
  rw[hk]
  exact lX d n
 rw[hF]
 rw[← hk] at hk2
 have hln:=fO hd b
 obtain⟨e,he⟩ : ∃ e,e=a7 d (n:Int):=⟨_,rfl⟩
 rw[← he] at hgs
 rw[hg] at he
 clear hL hE hs hb hk hrk hok hF hg
 refine af.aF ab Tryz.func107 rfl (by decide) (n:=Tryz.f107.ntmps - 3) rfl rfl fun w0 av=>?_
 conv=>whnf
 repeat (refine aa.of ?_;conv=>whnf)
 refine ak.val hgs (fun w hw=>hw) (fun v D hv=>?_)
 subst hv
 conv=>whnf
 repeat (refine aa.of ?_;conv=>whnf)
 intro b0
 conv=>whnf
 repeat (refine aa.of ?_;conv=>whnf)
 refine aH.no (by rw[he];simp[ar]) ?_
 conv=>whnf
 repeat (refine aa.of ?_;conv=>whnf)
 refine aH.no (by simp[aD];omega) ?_
 conv=>whnf
 repeat (refine aa.of ?_;conv=>whnf)
 have g1:(mL z 0)=false:=by rw[hz];simp[au]
 have g2:(yq z 1536)=false:=by rw[hz];simp[bP]
 rw[g1]
 conv=>whnf
 repeat (refine aa.of ?_;conv=>whnf)
 rw[g2]
 conv=>whnf
 repeat (refine aa.of ?_;conv=>whnf)
 refine aj.build ab (t:=23) rfl rfl rfl [] rfl rfl (by simp) (by decide) fun b1=>?_
 conv=>whnf
 repeat (refine aa.of ?_;conv=>whnf)
 refine aj.c_ (F':=⟨fun w=>By w h d,[]⟩) (aq.of_le ⟨by simp,fun w hw=>hw⟩) ?_
 refine aj.eQ ab (t:=23) (xt:=23) rfl rfl rfl rfl rfl rfl rfl rfl (l:=d) (.fact fun w hw=>hw) (by omega) (by omega) fun b2 c2 Z hc2 hZ=>?_
 conv=>whnf
 repeat (refine aa.of ?_;conv=>whnf)
 refine aI.loop ab (ι:=Nat×Hd) ([10,11]++List.range' 36 21) (fun x=>x.1≤12∧x.2.Ok 12288)
  (fun x=>[(10,.v (x.2.v 12288)),(11,.v (.int .i64 (x.1:Int)))]) (fun x=>[bg k s (zb b x.1)]) (fun x=>⟨fun w=>By w x.2 (cw d b x.1),[]⟩)
  (fun x=>12 - x.1) (0,⟨some ⟨b2,0,none⟩,c2⟩) ⟨Nat.zero_le _,⟨fun h=>(by cases h),by dsimp only;omega⟩⟩ ?_ rfl (aq.kr (r1:=[]) (r2:=[])) fun x hx=>?_
 · rw[← hd]
   conv=>whnf
   repeat (first | exact aw.nil | refine aw.any ?_ | refine aw.cons ?_)
 obtain⟨i,k2⟩:=x
 obtain⟨hi,hk2'⟩:=hx
 dsimp only at hi hk2' ⊢
 conv=>whnf
 repeat (refine aa.of ?_;conv=>whnf)
 refine aH.split (fun hlt=>?_) (fun hlt=>?_)
 · have hlt':i<12:=by
    simp only[au,decide_eq_true_eq] at hlt
    omega
   have hzi:zb b i i=b i:=if_neg (by omega)
   conv=>whnf
   repeat (refine aa.of ?_;conv=>whnf)
   rw[bL hlt']
   conv=>whnf
   repeat (refine aa.of ?_;conv=>whnf)
   refine cF (x:=aE (b i)) (by dsimp only;rw[Nat.mul_one,Nat.zero_add,← hzi];exact cP hlt') ?_
   conv=>whnf
   repeat (refine aa.of ?_;conv=>whnf)
   refine aH.split (fun hq=>?_) (fun hq=>?_)
   · have hz':b i≠0:=by
      simp[ar] at hq
      omega
     have hrel:cw d b (i+1)=zL (cw d b i) (b i):=by
      conv=>lhs;unfold cw
      rw[if_neg hz']
     have hrs:=mQ (cw d b i) k2 (by rw[hln];exact hk2') (hln i) (b i) (hbl i hlt')
     rw[hln,← hrel] at hrs
     conv=>whnf
     repeat (refine aa.of ?_;conv=>whnf)
     rw[bL hlt']
     conv=>whnf
     repeat (refine aa.of ?_;conv=>whnf)
     refine cF (x:=aE (b i)) (by dsimp only;rw[Nat.mul_one,Nat.zero_add,← hzi];exact cP hlt') ?_
     conv=>whnf
     repeat (refine aa.of ?_;conv=>whnf)
     refine ak.pure hrs (fun w hw=>hw) (fun v D hv=>?_)
     obtain⟨k3,rfl,hk3,rfl⟩:=hv
     rw[hln] at hk3 ⊢
     conv=>whnf
     repeat (refine aa.of ?_;conv=>whnf)
     rw[bL hlt']
     conv=>whnf
     repeat (refine aa.of ?_;conv=>whnf)
     refine eB (by simp[bg];omega) ?_
     rw[Nat.mul_one,Nat.zero_add,show laid (bg k s (zb b i)) (2+i) [Value.int .i64 0]=bg k s (zb b (i+1)) from Ca hlt']
     conv=>whnf
     repeat (refine aa.of ?_;conv=>whnf)
     refine⟨(i+1,k3),⟨⟨hlt',hk3⟩,by dsimp only;omega⟩,?_,?_,?_⟩
     · conv=>whnf
       refine⟨?_,rfl⟩
       repeat (first | exact aw.nil | refine aw.any ?_ | refine aw.cons ?_ | refine aw.eq (by rw[wrap_i64 (by omega)];rfl) ?_)
     · conv=>whnf
       exact⟨⟨rfl,rfl⟩,trivial⟩
     · refine aq.of_le ⟨by simp[Fx.and],fun w hw=>hw.2⟩
   · have hz':b i=0:=by
      simp[ar] at hq
      by_cases h5:b i=0
      · exact h5
      · have h6:=hq (by omega)
        rw[hz,wrap_i64 (by omega)] at h6
        simp[bI] at h6
        omega
     have hrel:cw d b (i+1)=cw d b i:=by
      conv=>lhs;unfold cw
      rw[if_pos hz']
     rw[Da hz']
     conv=>whnf
     repeat (refine aa.of ?_;conv=>whnf)
     refine⟨(i+1,k2),⟨⟨hlt',hk2'⟩,by dsimp only;omega⟩,?_,?_,?_⟩
     · conv=>whnf
       refine⟨?_,rfl⟩
       repeat (first | exact aw.nil | refine aw.any ?_ | refine aw.cons ?_ | refine aw.eq (by rw[wrap_i64 (by omega)];rfl) ?_)
     · conv=>whnf
       exact⟨⟨rfl,rfl⟩,trivial⟩
     · refine aq.of_le ⟨List.Sublist.refl _,fun w hw=>by dsimp only;rw[hrel];exact hw⟩
 have hie:i=12:=by
  simp only[au,decide_eq_false_iff_not] at hlt
  omega
 subst hie
 have hpt:=fB (cw d b 12) k2 n k 0 (fun _=>0) (by rw[hln];exact hk2') (hln 12) hm32 (by omega) (by omega) (fun j=>by omega)
 have hpl:=bf (hln 12) hm32 k 0 (fun _=>0)
 rw[hln] at hpt
 rw[B8]
 generalize cS (cw d b 12) n k 0 (fun _=>0)=dd at *
 have e1:iZ (z.tmod (Int.ofNat (127+1))) 0=false:=by
  rw[hz,show Int.tmod 0 (Int.ofNat (127+1))=0 from rfl]
  simp[ar]
 conv=>whnf
 repeat (refine aa.of ?_;conv=>whnf)
 rw[e1]
 conv=>whnf
 repeat (refine aa.of ?_;conv=>whnf)
 subst hz
 refine ak.pure hpt (fun w hw=>hw) (fun v D hv=>?_)
 obtain⟨b3,c3,Z3,rfl,hc3,rfl⟩:=hv
 conv=>whnf
 repeat (refine aa.of ?_;conv=>whnf)
 exact⟨_,aq.kr (r1:=[]) (r2:=[]),⟨some ⟨b3,0,none⟩,c3⟩,rfl,⟨fun h=>(by cases h),hc3⟩,rfl⟩
theorem xK {d:List UInt8} (hd:d.length=12288) (hok:eZ d) {n:Nat} (hn:n<32) (b:Nat→Nat) (k:Nat) :
 cS (cw d b 12) n k 0 (fun _=>0)=gl d (fN (bB d) n (k,0,fun _=>0)) (cB (bA d) b 12):=by
 have hl:=eJ (aU hd) b 12
 rw[gP hok hd hl (fun m _ _=>rfl) hn,lv hd]
 generalize cB (bA d) b 12=B at *
 have h1:=aP hd hl
 have h2:=bf hd hn k 0 (fun _=>0)
 refine bW (by rw[bf h1 hn,aP h2 hl]) fun m hm=>?_
 dsimp only
 rw[bO h1 hn,aX h2 hl,aX hd hl,bO hd hn]
 by_cases h:1664≤m∧m<1676
 · rw[if_neg (by omega),if_pos h,if_pos h]
 · rw[if_neg h,if_neg h]
theorem vC (d:List UInt8) (h:Hd) (hh:h.Ok d.length) (hl:d.length≤1000000) (n:Nat) (hg:a7 d (n:Int)=0) (hk2:rk d n≠2) (z:Int) (hz:z=0) :
 af Tryz.prog 47 [h.v d.length,.int .i64 (n:Int),.int .i64 z] (fun w=>By w h d) (fJ (k7 d n) 0):=by
 have hws:=gV d h hh hl n
 have h0:dM d=0:=by
  by_cases h0:dM d=0
  · exact h0
  · exfalso
    apply h0
    unfold a7 at hg
    rw[if_pos h0] at hg
    exact hg
 obtain⟨hd,hok⟩:=bl h0
 have hge:=tg d n h0
 obtain⟨-,-,m,hm,hm32,hrk⟩:=cd hg
 obtain rfl:n=m:=by omega
 obtain⟨e1,e2⟩:=kP hm32 hrk
 obtain⟨e0,he0⟩ : ∃ e:Nat,e=eR (bB d) (n:Int):=⟨_,rfl⟩
 have hF:k7 d n=cS (cw d (rb d n) 12) n (rk d n) 0 (fun _=>0):=rfl
 rw[xK hd hok hm32] at hF
 rw[hF]
 have hbm:=aU hd
 have hB:=eJ hbm (rb d n)
 have hB0:cB (bA d) (rb d n) 0=bA d:=rfl
 have hBn : ∀ i,cB (bA d) (rb d n) (i+1)=if rb d n i=0 then cB (bA d) (rb d n) i else cq (cB (bA d) (rb d n) i) (rb d n i) false:=fun i=>rfl
 have hbl : ∀ i,i<12→rb d n i<96:=fun i hi=>eo hok hm32 hi
 have hk256:=lX d n
 have hdl:=fP hd (fN (bB d) n (rk d n,0,fun _=>0)) (hB 12)
 have hdn:=fun bd bv cap Z hcap k hk=>fQ bd bv cap d Z hd hcap (fN (bB d) n (rk d n,0,fun _=>0)) (gN ⟨by show rk d n≤_;omega,Nat.zero_le _,fun j=>Nat.zero_le _⟩) k hk (cB (bA d) (rb d n) 12) (hB 12)
 have hvs:=fun X Y=>mF X (bB d) Y hm32 (rk d n,0,fun _=>0)
 have hvl:=fun X Y=>fh X (bB d) Y
 have hdr:=fun bv X k i=>s5 bv X (bB d) k (cB (bA d) (rb d n) i)
 unfold Cq at hdr
 unfold oD at hws
 simp only[h0,if_true] at hws
 rw[← he0,e2] at hws
 rw[e1] at he0
 generalize gl d (fN (bB d) n (rk d n,0,fun _=>0)) (cB (bA d) (rb d n) 12)=dd at *
 generalize cB (bA d) (rb d n)=BA at *
 generalize fN (bB d) n (rk d n,0,fun _=>0)=U at *
 generalize bB d=G at *
 generalize rk d n=k at *
 generalize rs d n=s at *
 generalize rb d n=b at *
 clear hg hrk hge e1 e2 hF hok
 rw[show iG (k,s,b)=bg k s b from rfl] at hws
 refine af.aF ab Tryz.func47 rfl (by decide) (n:=Tryz.f47.ntmps - 3) rfl rfl fun w0 av=>?_
 conv=>whnf
 repeat (refine aa.of ?_;conv=>whnf)
 refine ak.pure hws (fun w hw=>hw) (fun v D hv=>?_)
 obtain⟨bd,bv,cap,Z,kb,rfl,hcap,hkb,rfl⟩:=hv
 have hdn:=fun k hk=>hdn bd bv cap Z hcap k hk
 have hvs:=fun Y=>hvs (.slice (some ⟨bd,0,none⟩) d.length cap) Y
 have hvl:=fun Y=>hvl (.slice (some ⟨bd,0,none⟩) d.length cap) Y
 have hdr:=fun k i=>hdr bv (.slice (some ⟨bd,0,none⟩) d.length cap) k i
 generalize dX (.slice (some ⟨bd,0,none⟩) d.length cap) U=V2 at *
 generalize dX (.slice (some ⟨bd,0,none⟩) d.length cap) G=V at *
 conv=>whnf
 repeat (refine aa.of ?_;conv=>whnf)
 intro b7
 conv=>whnf
 repeat (refine aa.of ?_;conv=>whnf)
 refine aH.no (by subst he0;simp[ar]) ?_
 conv=>whnf
 repeat (refine aa.of ?_;conv=>whnf)
 refine aH.no (by simp[aD];omega) ?_
 conv=>whnf
 repeat (refine aa.of ?_;conv=>whnf)
 have g1:(mL z 0)=false:=by rw[hz];simp[au]
 have g2:(yq z 1536)=false:=by rw[hz];simp[bP]
 rw[g1]
 conv=>whnf
 repeat (refine aa.of ?_;conv=>whnf)
 rw[g2]
 conv=>whnf
 repeat (refine aa.of ?_;conv=>whnf)
 refine aI.loop ab (ι:=Nat×Hd) ([11,35]++List.range' 36 16) (fun x=>x.1≤12∧x.2.Ok 12)
  (fun x=>[(35,.v (.int .i64 (x.1:Int)))]) (fun x=>[bg k s (zb b x.1)]) (fun x=>⟨fun w=>By w x.2 (BA x.1),[(bd,Row.c (d.map ao++Z))] ++ [(bv,Row.c (V (x.2.v 12)))] ++ []⟩)
  (fun x=>12 - x.1) (0,kb) ⟨Nat.zero_le _,hkb⟩ ?_ rfl (aq.of_le ⟨by simp[Fx.and],fun w hw=>by dsimp only;rw[hB0];exact hw.2⟩) fun x hx=>?_
 · conv=>whnf
   repeat (first | exact aw.nil | refine aw.any ?_ | refine aw.cons ?_)
 obtain⟨i,kk⟩:=x
 obtain⟨hi,hkk⟩:=hx
 dsimp only at hi hkk ⊢
 conv=>whnf
 repeat (refine aa.of ?_;conv=>whnf)
 refine aH.split (fun hlt=>?_) (fun hlt=>?_)
 · have hlt':i<12:=by
    simp only[au,decide_eq_true_eq] at hlt
    omega
   have hbi:=hbl i hlt'
   have hzi:zb b i i=b i:=if_neg (by omega)
   have hdr':=hdr kk i hkk (hB i) (b i) hbi
   rw[← hBn] at hdr'
   have hps:=gZ 0 (by omega)
   rw[show((0:Nat):Int)=z by rw[hz];rfl] at hps
   conv=>whnf
   repeat (refine aa.of ?_;conv=>whnf)
   refine ak.val hps (fun w hw=>trivial) (fun v D hv=>?_)
   subst hv
   conv=>whnf
   repeat (refine aa.of ?_;conv=>whnf)
   refine aH.yes (by rw[bI];exact decide_eq_true (by omega)) ?_
   conv=>whnf
   repeat (refine aa.of ?_;conv=>whnf)
   rw[bL hlt']
   conv=>whnf
   repeat (refine aa.of ?_;conv=>whnf)
   refine cF (x:=aE (b i)) (by dsimp only;rw[Nat.mul_one,Nat.zero_add,← hzi];exact cP hlt') ?_
   conv=>whnf
   repeat (refine aa.of ?_;conv=>whnf)
   refine ak.rows hdr' (fun w hw=>hw) (fun v F hv=>?_)
   obtain⟨k2,hk2,rfl⟩:=hv
   conv=>whnf
   repeat (refine aa.of ?_;conv=>whnf)
   rw[bL hlt']
   conv=>whnf
   repeat (refine aa.of ?_;conv=>whnf)
   refine eB (by simp[bg];omega) ?_
   rw[Nat.mul_one,Nat.zero_add,show laid (bg k s (zb b i)) (2+i) [Value.int .i64 0]=bg k s (zb b (i+1)) from Ca hlt']
   conv=>whnf
   repeat (refine aa.of ?_;conv=>whnf)
   refine⟨(i+1,k2),⟨⟨hlt',hk2⟩,by dsimp only;omega⟩,?_,?_,?_⟩
   · conv=>whnf
     refine⟨?_,rfl⟩
     repeat (first | exact aw.nil | refine aw.any ?_ | refine aw.cons ?_ | refine aw.eq (by rw[wrap_i64 (by omega)];rfl) ?_)
   · conv=>whnf
     exact⟨⟨rfl,rfl⟩,trivial⟩
   · refine aq.of_le ⟨List.Sublist.refl _,fun w hw=>hw.2⟩
 have hie:i=12:=by
  simp only[au,decide_eq_false_iff_not] at hlt
  omega
 subst hie
 have hdn':=hdn kk hkk
 rw[B8]
 have e1:iZ (z.tmod (Int.ofNat (127+1))) 0=false:=by
  rw[hz,show Int.tmod 0 (Int.ofNat (127+1))=0 from rfl]
  simp[ar]
 conv=>whnf
 repeat (refine aa.of ?_;conv=>whnf)
 rw[e1]
 conv=>whnf
 repeat (refine aa.of ?_;conv=>whnf)
 subst hz
 refine aI.draw ab mixed rfl rfl ?_
 conv=>whnf
 repeat' (first
  | (refine And.intro ?_ ?_<;>conv=>whnf)
  | (refine ax.same rfl ?_;conv=>whnf)
  | (refine ax.row rfl ?_;conv=>whnf)
  | (refine ax.call rfl ?_;conv=>whnf)
  | (refine bG.of ?_;conv=>whnf)
  | (refine aa.of ?_;conv=>whnf)
  | (refine ai.dk ab (t:=103) rfl rfl rfl n rfl hm32 rfl ?_;conv=>whnf)
  | (refine ax.mk ?_ ?_;(focus (first | exact aq.refl _ | exact aq.left _ _ | exact aq.of_le ⟨List.sublist_append_left _ _,fun w h=>h⟩ | exact aq.of_le ⟨List.Sublist.refl _,fun w h=>h.1⟩));conv=>whnf))
 refine a_.cE ab (t:=82) rfl (r1:=[(bd,Row.c (d.map ao++Z))]) (r2:=[]) (b:=bv) (k:=1+14*n) (C:=V (kk.v 12)) (v:=.agg ⟨bg k 0 fun i=>0⟩) (by show(Addr.add ⟨bv,0,none⟩ 1).add (n*14)=_;simp only[Addr.aV];rw[Nat.zero_add,Nat.mul_comm]) rfl (by simp[Value.cells,bg,aE,aO]) (by rw[hvl];show _+14≤_;omega) ?_
 rw[show laid (V (kk.v 12)) (1+14*n) (Value.agg ⟨bg k 0 fun i=>0⟩).cells.toList=V2 (kk.v 12) from hvs _]
 conv=>whnf
 repeat (refine aa.of ?_;conv=>whnf)
 refine ak.rows (r1:=[]) (r2:=[]) hdn' (fun w hw=>hw) (fun v F hv=>?_)
 obtain⟨rfl,rfl⟩:=hv
 conv=>whnf
 repeat (refine aa.of ?_;conv=>whnf)
 exact jG (by omega) hcap
theorem oF {d p:List UInt8} (h38:aM d=0) (h:(cA d p).2=0):a7 d ((cA d p).1:Int)=0:=by
 obtain⟨h0,-,-⟩:=bx h38
 obtain⟨hd,hok⟩:=bl h0
 have hr:=qt hd hok
 rw[y5 h38] at h ⊢
 by_cases hs:(aL p).2≠0
 · rw[if_pos hs] at h
   cases h
 rw[if_neg hs] at h ⊢
 obtain⟨e1,e2⟩:=dY h38 (aL p).1 0 (by decide) (by rw[hr.1];decide) fun s hs he=>by
  have:=dH p s hs
  rw[he] at this
  cases this
 rw[e1] at h ⊢
 exact(di h0).2 (e2 h)
noncomputable def i_ (d p:List UInt8) (fl:Nat):Rs:=
 if (cA d p).2=8∧fl%2=1 then (if (bE d p 1).2.2≠0 then .err (bE d p 1).2.2 else ⟨(bE d p 1).2.1,((bE d p 1).1:Int),1,[],0⟩)
 else if (cA d p).2≠0 then .err (cA d p).2
 else if rk d (cA d p).1=2∧fl≠0 then .err 14
 else ⟨if fl/2%2=1 then k7 d (cA d p).1 else d,((cA d p).1:Int),(rk d (cA d p).1:Int),[],0⟩
theorem Cs {fl:Nat} (h:fl≤7):Sx.bits .and .i64 (fl:Int) 1=((fl%2:Nat):Int)∧Sx.bits .and .i64 (fl:Int) 2=((2*(fl/2%2):Nat):Int):=by
 have:fl=0∨fl=1∨fl=2∨fl=3∨fl=4∨fl=5∨fl=6∨fl=7:=by omega
 rcases this with rfl | rfl | rfl | rfl | rfl | rfl | rfl | rfl<;>decide
theorem wO (d:List UInt8) (h:Hd) (hh:h.Ok d.length) (hl:d.length≤1000000) (h38:aM d=0) (op node at0 n:Int) (k:Hd) (p:List UInt8) (hk:k.Ok p.length) (hp:p.length≤200) (fl:Nat) (hfl:fl≤7) (ha:at0=(fl:Int)) :
 af Tryz.prog 22 [h.v d.length,.agg ⟨dD op node at0 n k p.length⟩] (fun w=>By w h d∧By w k p) (cZ (i_ d p fl)):=by
 have hws:=mo d h hh hl p hp
 obtain⟨R,hR⟩ : ∃ R,R=i_ d p fl:=⟨_,rfl⟩
 rw[← hR]
 unfold i_ at hR
 have hms:=iS d h hh hl p hp 1
 have hgs:=jl d h hh hl ((cA d p).1:Int)
 have hnode:=oF h38 (p:=p)
 have hts:=fun z hz hg hk=>vC d h hh hl (cA d p).1 hg hk z hz
 generalize bE d p 1=mr at *
 obtain⟨mn,d2,me⟩:=mr
 dsimp only at hms hR
 generalize (cA d p).2=we at *
 generalize (cA d p).1=wn at *
 obtain⟨k1,s1,b1,hL,hE⟩:=cJ d (wn:Int)
 rw[hL] at hgs
 rw[Int.toNat_natCast] at hE
 obtain⟨hb1,hb2⟩:=Cs hfl
 rw[← ha] at hb1 hb2
 have ht1:iZ (Sx.bits .and .i64 at0 1) 0=decide (fl%2=1):=by
  rw[hb1,ar,Bool.eq_iff_iff]
  simp
  omega
 have ht2:iZ (Sx.bits .and .i64 at0 2) 0=decide (fl/2%2=1):=by
  rw[hb2,ar,Bool.eq_iff_iff]
  simp
  omega
 have ht3:iZ at0 0=decide (fl≠0):=by
  rw[ha,ar,Bool.eq_iff_iff]
  simp
 have ht4:cN (we:Int) 8=decide (we=8):=dP we 8
 refine af.aF ab Tryz.func22 rfl (by decide) (n:=Tryz.f22.ntmps - 2) rfl rfl fun w0 av=>?_
 conv=>whnf
 repeat (refine aa.of ?_;conv=>whnf)
 intro b3
 conv=>whnf
 repeat (refine aa.of ?_;conv=>whnf)
 intro b5
 conv=>whnf
 repeat (refine aa.of ?_;conv=>whnf)
 refine aj.ah (ai.bytes ab (t:=23) (u:=9) rfl rfl rfl rfl rfl rfl (l:=p) (.fact fun w hw=>hw.2) rfl ?_)
 conv=>whnf
 repeat (refine aa.of ?_;conv=>whnf)
 refine ak.val hws (fun w hw=>hw.1) (fun v D hv=>?_)
 unfold fc at hv
 subst hv
 conv=>whnf
 repeat (refine aa.of ?_;conv=>whnf)
 rw[ht4]
 generalize hq1:decide (we=8)=q1
 generalize hq2:decide (fl%2=1)=q2 at ht1
 have hbr:(we=8∧fl%2=1)↔(q1=true∧q2=true):=by
  rw[← hq1,← hq2,decide_eq_true_eq,decide_eq_true_eq]
 simp only[hbr] at hR
 by_cases hC:q1=true∧q2=true
 · rw[if_pos hC] at hR
   obtain⟨rfl,rfl⟩:=hC
   conv=>whnf
   repeat (refine aa.of ?_;conv=>whnf)
   rw[ht1]
   conv=>whnf
   repeat (refine aa.of ?_;conv=>whnf)
   refine ak.pure hms (fun w hw=>hw.1) (fun v D hv=>?_)
   obtain⟨k2,rfl,hk2,rfl⟩:=hv
   conv=>whnf
   repeat (refine aa.of ?_;conv=>whnf)
   by_cases hme:me=0
   · rw[if_neg (by rw[hme];simp)] at hR
     subst hR
     refine⟨⟨fun w=>By w k2 d2∧By w Hd.nil [],[]⟩,aq.of_le ⟨by simp[Fx.and],fun w hw=>⟨hw.2,By.nil w⟩⟩,?_⟩
     unfold cZ
     rw[if_pos rfl,hme]
     exact⟨k2,Hd.nil,rfl,hk2,Hd.dq,rfl⟩
   · rw[if_pos hme] at hR
     subst hR
     exact⟨_,aq.refl _,dG (r:=.err me) hme k2 Hd.nil _ 0 _ _ _⟩
 rw[if_neg hC] at hR
 cases q1
 case' true=>
  obtain rfl:q2=false:=by
   cases q2
   · rfl
   · exact absurd ⟨rfl,rfl⟩ hC
  conv=>whnf
  repeat (refine aa.of ?_;conv=>whnf)
  rw[ht1]
 all_goals
  conv=>whnf
  repeat (refine aa.of ?_;conv=>whnf)
  refine aH.split (fun hq=>?_) (fun hq=>?_)
  · have hq':we≠0:=by
     simp[ar] at hq
     omega
    rw[if_pos hq'] at hR
    subst hR
    conv=>whnf
    repeat (refine aa.of ?_;conv=>whnf)
    exact⟨_,aq.refl _,dG (r:=.err we) hq' Hd.nil Hd.nil 0 0 0 0 _⟩
  have hq':we=0:=by
   simp[ar] at hq
   omega
  rw[if_neg (by rw[hq'];simp)] at hR
  have hg:=hnode hq'
  have hts2:=fun hk=>hts 0 rfl hg hk
  clear hts
  obtain⟨hkk,-,-⟩:=hE hg
  rw[← hkk] at hR hts2
  clear hE hkk hL
  generalize a7 d (wn:Int)=ge at *
  generalize k7 d wn=tr at *
  conv=>whnf
  repeat (refine aa.of ?_;conv=>whnf)
  refine ak.val hgs (fun w hw=>hw.1) (fun v D hv=>?_)
  subst hv
  conv=>whnf
  repeat (refine aa.of ?_;conv=>whnf)
  intro b13
  conv=>whnf
  repeat (refine aa.of ?_;conv=>whnf)
  have ht5:cN (k1:Int) 2=decide (k1=2):=dP k1 2
  rw[ht5]
  generalize hq3:decide (k1=2)=q3
  generalize hq4:decide (fl≠0)=q4 at ht3
  have hbr2:(k1=2∧fl≠0)↔(q3=true∧q4=true):=by
   rw[← hq3,← hq4,decide_eq_true_eq,decide_eq_true_eq]
  have hno : ¬ (q3=true∧q4=true)→fl/2%2=1→k1≠2:=fun h5 h6 h7=>h5 (hbr2.1 ⟨h7,by omega⟩)
  simp only[hbr2] at hR
  by_cases hC2:q3=true∧q4=true
  · rw[if_pos hC2] at hR
    subst hR
    obtain⟨rfl,rfl⟩:=hC2
    conv=>whnf
    repeat (refine aa.of ?_;conv=>whnf)
    rw[ht3]
    conv=>whnf
    repeat (refine aa.of ?_;conv=>whnf)
    exact⟨_,aq.refl _,dG (r:=.err 14) (by simp[Rs.err]) Hd.nil Hd.nil 0 0 0 0 _⟩
  rw[if_neg hC2] at hR
  have hno2:=hno hC2
  cases q3
  case' true=>
   obtain rfl:q4=false:=by
    cases q4
    · rfl
    · exact absurd ⟨rfl,rfl⟩ hC2
   conv=>whnf
   repeat (refine aa.of ?_;conv=>whnf)
   rw[ht3]
  all_goals
   conv=>whnf
   repeat (refine aa.of ?_;conv=>whnf)
   rw[ht2]
   by_cases hC3:fl/2%2=1
   · rw[if_pos hC3] at hR
     refine aH.yes (decide_eq_true hC3) ?_
     conv=>whnf
     repeat (refine aa.of ?_;conv=>whnf)
     refine ak.pure (hts2 (hno2 hC3)) (fun w hw=>hw.1) (fun v D hv=>?_)
     obtain⟨k2,rfl,hk2,rfl⟩:=hv
     conv=>whnf
     repeat (refine aa.of ?_;conv=>whnf)
     refine aI.draw ab mixed rfl rfl ?_
     conv=>whnf
     repeat' (first
      | (refine And.intro ?_ ?_<;>conv=>whnf)
      | (refine ax.same rfl ?_;conv=>whnf)
      | (refine ax.row rfl ?_;conv=>whnf)
      | (refine ax.call rfl ?_;conv=>whnf)
      | (refine bG.of ?_;conv=>whnf)
      | (refine aa.of ?_;conv=>whnf)
      | (refine ax.mk ?_ ?_;(focus (first | exact aq.refl _ | exact aq.left _ _ | exact aq.of_le ⟨List.sublist_append_left _ _,fun w h=>h⟩ | exact aq.of_le ⟨List.Sublist.refl _,fun w h=>h.1⟩));conv=>whnf))
     all_goals
      subst hR
      refine⟨⟨fun w=>By w k2 tr∧By w Hd.nil [],[]⟩,aq.of_le ⟨by simp[Fx.and],fun w hw=>⟨hw.2,By.nil w⟩⟩,?_⟩
      unfold cZ
      rw[if_pos rfl]
      exact⟨k2,Hd.nil,rfl,hk2,Hd.dq,rfl⟩
   · rw[if_neg hC3] at hR
     refine aH.no (decide_eq_false hC3) ?_
     conv=>whnf
     repeat (refine aa.of ?_;conv=>whnf)
     refine aI.draw ab mixed rfl rfl ?_
     conv=>whnf
     repeat' (first
      | (refine And.intro ?_ ?_<;>conv=>whnf)
      | (refine ax.same rfl ?_;conv=>whnf)
      | (refine ax.row rfl ?_;conv=>whnf)
      | (refine ax.call rfl ?_;conv=>whnf)
      | (refine bG.of ?_;conv=>whnf)
      | (refine aa.of ?_;conv=>whnf)
      | (refine ax.mk ?_ ?_;(focus (first | exact aq.refl _ | exact aq.left _ _ | exact aq.of_le ⟨List.sublist_append_left _ _,fun w h=>h⟩ | exact aq.of_le ⟨List.Sublist.refl _,fun w h=>h.1⟩));conv=>whnf))
     all_goals
      subst hR
      refine⟨⟨fun w=>By w h d∧By w Hd.nil [],[]⟩,aq.of_le ⟨by simp[Fx.and],fun w hw=>⟨hw.1,By.nil w⟩⟩,?_⟩
      unfold cZ
      rw[if_pos rfl]
      exact⟨h,Hd.nil,by rw[hq'];rfl,hh,Hd.dq,rfl⟩
theorem xY (d:List UInt8) (h:Hd) (hh:h.Ok d.length) (hl:d.length≤1000000) (h38:aM d=0) (at0:Int) (p:List UInt8) (hp:p.length≤200) (fl:Nat) (hfl:fl≤7) (ha:at0=(fl:Int)) :
 af Tryz.prog 57 [h.v d.length,aC p,.int .i64 at0] (fun w=>By w h d) (cZ (i_ d p fl)):=by
 have hws:=oR d h hh hl p hp
 obtain⟨R,hR⟩ : ∃ R,R=i_ d p fl:=⟨_,rfl⟩
 rw[← hR]
 unfold i_ at hR
 have hms:=iR d h hh hl p hp 1
 have hgs:=dA d h hh hl ((cA d p).1:Int)
 have hnode:=oF h38 (p:=p)
 have hts:=fun z hz hg hk=>ve d h hh hl (cA d p).1 hg hk z hz
 generalize bE d p 1=mr at *
 obtain⟨mn,d2,me⟩:=mr
 dsimp only at hms hR
 generalize (cA d p).2=we at *
 generalize (cA d p).1=wn at *
 obtain⟨k1,s1,b1,hL,hE⟩:=cJ d (wn:Int)
 rw[hL] at hgs
 rw[Int.toNat_natCast] at hE
 have ht1:cN (Int.tmod at0 (Int.ofNat (1+1))) 1=decide (fl%2=1):=by
  rw[ha,show Int.tmod (fl:Int) (Int.ofNat (1+1))=((fl%2:Nat):Int) from dL fl 2,aD,Bool.eq_iff_iff]
  simp
  omega
 have ht2:cN (Int.tmod (IntKind.i64.wrap (Int.tdiv at0 (Int.ofNat (1+1)))) (Int.ofNat (1+1))) 1=decide (fl/2%2=1):=by
  rw[ha,show IntKind.i64.wrap (Int.tdiv (fl:Int) (Int.ofNat (1+1)))=((fl/2:Nat):Int) from kI fl 2 (by omega),show Int.tmod ((fl/2:Nat):Int) (Int.ofNat (1+1))=((fl/2%2:Nat):Int) from dL (fl/2) 2,aD,Bool.eq_iff_iff]
  simp
  omega
 have ht3:iZ at0 0=decide (fl≠0):=by
  rw[ha,ar,Bool.eq_iff_iff]
  simp
 have ht4:cN (we:Int) 8=decide (we=8):=dP we 8
 refine af.aF ab Tryz.func57 rfl (by decide) (n:=Tryz.f57.ntmps - 3) rfl rfl fun w0 av=>?_
 conv=>whnf
 repeat (refine aa.of ?_;conv=>whnf)
 intro b7
 conv=>whnf
 repeat (refine aa.of ?_;conv=>whnf)
 refine ak.val hws (fun w hw=>hw) (fun v D hv=>?_)
 unfold fc at hv
 subst hv
 conv=>whnf
 repeat (refine aa.of ?_;conv=>whnf)
 rw[ht4]
 generalize hq1:decide (we=8)=q1
 generalize hq2:decide (fl%2=1)=q2 at ht1
 have hbr:(we=8∧fl%2=1)↔(q1=true∧q2=true):=by
  rw[← hq1,← hq2,decide_eq_true_eq,decide_eq_true_eq]
 simp only[hbr] at hR
 by_cases hC:q1=true∧q2=true
 · rw[if_pos hC] at hR
   obtain⟨rfl,rfl⟩:=hC
   conv=>whnf
   repeat (refine aa.of ?_;conv=>whnf)
   rw[ht1]
   conv=>whnf
   repeat (refine aa.of ?_;conv=>whnf)
   refine ak.pure hms (fun w hw=>hw) (fun v D hv=>?_)
   obtain⟨k2,rfl,hk2,rfl⟩:=hv
   conv=>whnf
   repeat (refine aa.of ?_;conv=>whnf)
   refine aH.split (fun hq=>?_) (fun hq=>?_)
   · have hme:me≠0:=by
      simp[ar] at hq
      omega
     rw[if_pos hme] at hR
     subst hR
     conv=>whnf
     repeat (refine aa.of ?_;conv=>whnf)
     exact⟨_,aq.refl _,dG (r:=.err me) hme Hd.nil Hd.nil 0 0 0 0 _⟩
   · have hme:me=0:=by
      simp[ar] at hq
      omega
     rw[if_neg (by rw[hme];simp)] at hR
     subst hR
     conv=>whnf
     repeat (refine aa.of ?_;conv=>whnf)
     refine⟨⟨fun w=>By w k2 d2∧By w Hd.nil [],[]⟩,aq.of_le ⟨by simp[Fx.and],fun w hw=>⟨hw.2,By.nil w⟩⟩,?_⟩
     unfold cZ
     rw[if_pos rfl]
     exact⟨k2,Hd.nil,rfl,hk2,Hd.dq,rfl⟩
 rw[if_neg hC] at hR
 cases q1
 case' true=>
  obtain rfl:q2=false:=by
   cases q2
   · rfl
   · exact absurd ⟨rfl,rfl⟩ hC
  conv=>whnf
  repeat (refine aa.of ?_;conv=>whnf)
  rw[ht1]
 all_goals
  conv=>whnf
  repeat (refine aa.of ?_;conv=>whnf)
  refine aH.split (fun hq=>?_) (fun hq=>?_)
  · have hq':we≠0:=by
     simp[ar] at hq
     omega
    rw[if_pos hq'] at hR
    subst hR
    conv=>whnf
    repeat (refine aa.of ?_;conv=>whnf)
    exact⟨_,aq.refl _,dG (r:=.err we) hq' Hd.nil Hd.nil 0 0 0 0 _⟩
  have hq':we=0:=by
   simp[ar] at hq
   omega
  rw[if_neg (by rw[hq'];simp)] at hR
  have hg:=hnode hq'
  have hts2:=fun hk=>hts 0 rfl hg hk
  clear hts
  obtain⟨hkk,-,-⟩:=hE hg
  rw[← hkk] at hR hts2
  clear hE hkk hL
  generalize a7 d (wn:Int)=ge at *
  generalize k7 d wn=tr at *
  conv=>whnf
  repeat (refine aa.of ?_;conv=>whnf)
  refine ak.val hgs (fun w hw=>hw) (fun v D hv=>?_)
  subst hv
  conv=>whnf
  repeat (refine aa.of ?_;conv=>whnf)
  intro b13
  conv=>whnf
  repeat (refine aa.of ?_;conv=>whnf)
  have ht5:cN (k1:Int) 2=decide (k1=2):=dP k1 2
  rw[ht5]
  generalize hq3:decide (k1=2)=q3
  generalize hq4:decide (fl≠0)=q4 at ht3
  have hbr2:(k1=2∧fl≠0)↔(q3=true∧q4=true):=by
   rw[← hq3,← hq4,decide_eq_true_eq,decide_eq_true_eq]
  have hno : ¬ (q3=true∧q4=true)→fl/2%2=1→k1≠2:=fun h5 h6 h7=>h5 (hbr2.1 ⟨h7,by omega⟩)
  simp only[hbr2] at hR
  by_cases hC2:q3=true∧q4=true
  · rw[if_pos hC2] at hR
    subst hR
    obtain⟨rfl,rfl⟩:=hC2
    conv=>whnf
    repeat (refine aa.of ?_;conv=>whnf)
    rw[ht3]
    conv=>whnf
    repeat (refine aa.of ?_;conv=>whnf)
    exact⟨_,aq.refl _,dG (r:=.err 14) (by simp[Rs.err]) Hd.nil Hd.nil 0 0 0 0 _⟩
  rw[if_neg hC2] at hR
  have hno2:=hno hC2
  cases q3
  case' true=>
   obtain rfl:q4=false:=by
    cases q4
    · rfl
    · exact absurd ⟨rfl,rfl⟩ hC2
   conv=>whnf
   repeat (refine aa.of ?_;conv=>whnf)
   rw[ht3]
  all_goals
   conv=>whnf
   repeat (refine aa.of ?_;conv=>whnf)
   rw[ht2]
   by_cases hC3:fl/2%2=1
   · rw[if_pos hC3] at hR
     refine aH.yes (decide_eq_true hC3) ?_
     conv=>whnf
     repeat (refine aa.of ?_;conv=>whnf)
     refine ak.pure (hts2 (hno2 hC3)) (fun w hw=>hw) (fun v D hv=>?_)
     obtain⟨k2,rfl,hk2,rfl⟩:=hv
     conv=>whnf
     repeat (refine aa.of ?_;conv=>whnf)
     refine aI.draw ab mixed rfl rfl ?_
     conv=>whnf
     repeat' (first
      | (refine And.intro ?_ ?_<;>conv=>whnf)
      | (refine ax.same rfl ?_;conv=>whnf)
      | (refine ax.row rfl ?_;conv=>whnf)
      | (refine ax.call rfl ?_;conv=>whnf)
      | (refine bG.of ?_;conv=>whnf)
      | (refine aa.of ?_;conv=>whnf)
      | (refine ax.mk ?_ ?_;(focus (first | exact aq.refl _ | exact aq.left _ _ | exact aq.of_le ⟨List.sublist_append_left _ _,fun w h=>h⟩ | exact aq.of_le ⟨List.Sublist.refl _,fun w h=>h.1⟩));conv=>whnf))
     all_goals
      subst hR
      refine⟨⟨fun w=>By w k2 tr∧By w Hd.nil [],[]⟩,aq.of_le ⟨by simp[Fx.and],fun w hw=>⟨hw.2,By.nil w⟩⟩,?_⟩
      unfold cZ
      rw[if_pos rfl]
      exact⟨k2,Hd.nil,rfl,hk2,Hd.dq,rfl⟩
   · rw[if_neg hC3] at hR
     refine aH.no (decide_eq_false hC3) ?_
     conv=>whnf
     repeat (refine aa.of ?_;conv=>whnf)
     refine aI.draw ab mixed rfl rfl ?_
     conv=>whnf
     repeat' (first
      | (refine And.intro ?_ ?_<;>conv=>whnf)
      | (refine ax.same rfl ?_;conv=>whnf)
      | (refine ax.row rfl ?_;conv=>whnf)
      | (refine ax.call rfl ?_;conv=>whnf)
      | (refine bG.of ?_;conv=>whnf)
      | (refine aa.of ?_;conv=>whnf)
      | (refine ax.mk ?_ ?_;(focus (first | exact aq.refl _ | exact aq.left _ _ | exact aq.of_le ⟨List.sublist_append_left _ _,fun w h=>h⟩ | exact aq.of_le ⟨List.Sublist.refl _,fun w h=>h.1⟩));conv=>whnf))
     all_goals
      subst hR
      refine⟨⟨fun w=>By w h d∧By w Hd.nil [],[]⟩,aq.of_le ⟨by simp[Fx.and],fun w hw=>⟨hw,By.nil w⟩⟩,?_⟩
      unfold cZ
      rw[if_pos rfl]
      exact⟨h,Hd.nil,rfl,hh,Hd.dq,rfl⟩
def fC (op node at0 n:Int) (len:Nat):Prop:=
 (op=1∧node=0∧n=0∧0≤at0∧at0≤7∧len≤128)∨(op=2∧0≤node∧node≤31∧0≤at0∧0≤n∧n≤1536∧len=0)∨
 (op=3∧0≤node∧node≤31∧-1≤at0∧n=0∧len≤128)∨((op=4∨op=5∨op=6)∧node=0∧at0=0∧n=0∧len≤128)
instance (op node at0 n:Int) (len:Nat):Decidable (fC op node at0 n len):=by unfold fC;infer_instance
theorem gI (op node at0 n:Int) (k:Hd) (len:Nat):af Tryz.prog 13 [.agg ⟨dD op node at0 n k len⟩] (fun _=>True) (fun v F=>v = .bool (decide (fC op node at0 n len))):=by
 have b1:=eM node 0 31
 have b2:=eM at0 0 7
 have b3:=eM n 0 1536
 have hfin : ∀ q:Bool,(q=true↔fC op node at0 n len)→Value.bool q=Value.bool (decide (fC op node at0 n len)):=fun q hq=>by
  congr 1
  rw[Bool.eq_iff_iff,hq,decide_eq_true_eq]
 unfold fC at hfin
 unfold fC
 refine af.aF ab Tryz.func13 rfl (by decide) (n:=Tryz.f13.ntmps - 1) rfl rfl fun w0 av=>?_
 conv=>whnf
 repeat (refine aa.of ?_;conv=>whnf)
 intro b0
 conv=>whnf
 repeat (refine aa.of ?_;conv=>whnf)
 repeat' (first
  | (refine aa.of ?_;conv=>whnf)
  | (refine aH.yes rfl ?_;conv=>whnf)
  | (refine aH.no rfl ?_;conv=>whnf)
  | (rw[show cN op 1=cN op 1 from rfl];cases h1:cN op 1<;>conv=>whnf)
  | (rw[show cN op 2=cN op 2 from rfl];cases h2:cN op 2<;>conv=>whnf)
  | (rw[show cN op 3=cN op 3 from rfl];cases h3:cN op 3<;>conv=>whnf)
  | (rw[show cN op 4=cN op 4 from rfl];cases h4:cN op 4<;>conv=>whnf)
  | (rw[show cN op 5=cN op 5 from rfl];cases h5:cN op 5<;>conv=>whnf)
  | (rw[show cN op 6=cN op 6 from rfl];cases h6:cN op 6<;>conv=>whnf)
  | (rw[show cN node 0=cN node 0 from rfl];cases h7:cN node 0<;>conv=>whnf)
  | (rw[show cN n 0=cN n 0 from rfl];cases h8:cN n 0<;>conv=>whnf)
  | (rw[show cN at0 0=cN at0 0 from rfl];cases h9:cN at0 0<;>conv=>whnf)
  | (rw[show gG at0 0=gG at0 0 from rfl];cases h10:gG at0 0<;>conv=>whnf)
  | (rw[show gG at0 (-1)=gG at0 (-1) from rfl];cases h11:gG at0 (-1)<;>conv=>whnf)
  | (refine ak.val b1 (fun w hw=>trivial) (fun v D hv=>?_);subst hv;cases h12:decide (0≤node∧node≤31)<;>conv=>whnf)
  | (refine ak.val b2 (fun w hw=>trivial) (fun v D hv=>?_);subst hv;cases h13:decide (0≤at0∧at0≤7)<;>conv=>whnf)
  | (refine ak.val b3 (fun w hw=>trivial) (fun v D hv=>?_);subst hv;cases h14:decide (0≤n∧n≤1536)<;>conv=>whnf))
 all_goals
  refine⟨_,aq.refl _,hfin _ ?_⟩
  simp only[aD,bI,eU,au,decide_eq_true_eq,decide_eq_false_iff_not,Bool.and_eq_true,Bool.and_true,Bool.true_and,Bool.false_eq_true,Bool.and_false,Bool.false_and,beq_iff_eq,beq_eq_false_iff_ne,ne_eq,cond_true,cond_false] at *
  constructor<;>intro hh<;>first | omega | exact False.elim hh
theorem gH (op node at0 n:Int) (k:Hd) (len:Nat):af Tryz.prog 14 [.agg ⟨dD op node at0 n k len⟩] (fun _=>True) (fun v F=>v = .bool (decide (fC op node at0 n len))):=by
 have hfin : ∀ q:Bool,(q=true↔fC op node at0 n len)→Value.bool q=Value.bool (decide (fC op node at0 n len)):=fun q hq=>by
  congr 1
  rw[Bool.eq_iff_iff,hq,decide_eq_true_eq]
 unfold fC at hfin
 unfold fC
 refine af.aF ab Tryz.func14 rfl (by decide) (n:=Tryz.f14.ntmps - 1) rfl rfl fun w0 av=>?_
 conv=>whnf
 repeat (refine aa.of ?_;conv=>whnf)
 intro b0
 conv=>whnf
 repeat (refine aa.of ?_;conv=>whnf)
 repeat' (first
  | (refine aa.of ?_;conv=>whnf)
  | (refine aH.yes rfl ?_;conv=>whnf)
  | (refine aH.no rfl ?_;conv=>whnf)
  | (rw[show cN op 1=cN op 1 from rfl];cases h1:cN op 1<;>conv=>whnf)
  | (rw[show cN op 2=cN op 2 from rfl];cases h2:cN op 2<;>conv=>whnf)
  | (rw[show cN op 3=cN op 3 from rfl];cases h3:cN op 3<;>conv=>whnf)
  | (rw[show cN op 4=cN op 4 from rfl];cases h4:cN op 4<;>conv=>whnf)
  | (rw[show cN op 5=cN op 5 from rfl];cases h5:cN op 5<;>conv=>whnf)
  | (rw[show cN op 6=cN op 6 from rfl];cases h6:cN op 6<;>conv=>whnf)
  | (rw[show cN node 0=cN node 0 from rfl];cases h7:cN node 0<;>conv=>whnf)
  | (rw[show gG node 0=gG node 0 from rfl];cases h8:gG node 0<;>conv=>whnf)
  | (rw[show mL node 32=mL node 32 from rfl];cases h9:mL node 32<;>conv=>whnf)
  | (rw[show cN n 0=cN n 0 from rfl];cases h10:cN n 0<;>conv=>whnf)
  | (rw[show cN at0 0=cN at0 0 from rfl];cases h11:cN at0 0<;>conv=>whnf)
  | (rw[show gG at0 0=gG at0 0 from rfl];cases h12:gG at0 0<;>conv=>whnf)
  | (rw[show xH at0 7=xH at0 7 from rfl];cases h13:xH at0 7<;>conv=>whnf)
  | (rw[show gG at0 (-1)=gG at0 (-1) from rfl];cases h14:gG at0 (-1)<;>conv=>whnf)
  | (rw[show gG n 0=gG n 0 from rfl];cases h15:gG n 0<;>conv=>whnf)
  | (rw[show xH n 1536=xH n 1536 from rfl];cases h16:xH n 1536<;>conv=>whnf))
 all_goals
  refine⟨_,aq.refl _,hfin _ ?_⟩
  simp only[aD,bI,eU,au,decide_eq_true_eq,decide_eq_false_iff_not,Bool.and_eq_true,Bool.and_true,Bool.true_and,Bool.false_eq_true,Bool.and_false,Bool.false_and,beq_iff_eq,beq_eq_false_iff_ne,ne_eq,cond_true,cond_false] at *
  constructor<;>intro hh<;>first | omega | exact False.elim hh
theorem Bl (d:List UInt8) (h:Hd) (hh:h.Ok d.length) (hd:d.length=12288) (on:Nat) (node at0 n:Int) (k:Hd) (p:List UInt8) (hk:k.Ok p.length) (hp:p.length≤100) (h1:on=1) (h2:node=0) (ha:at0=0) (h4:n=0) (h38:aM d=0) (m:Nat) (hw:cA d p=(m,0)) (hg:a7 d m=0) (hkd:rk d m=1) :
 af Tryz.prog 10 [h.v d.length,.agg ⟨dD (on:Int) node at0 n k p.length⟩] (fun w=>By w h d∧By w k p) (fun v F=>∃ h2:Hd,v = .tuple #[h2.v d.length,.agg ⟨[.int .i64 (m:Int),.int .i64 1,.slice none 0 0]⟩,.int .i64 0]):=by
 have hl:d.length≤1000000:=by omega
 have hfm:=um (on:Int) node at0 n k p.length (by omega) h2 ha h4 (by omega)
 have hck:=gg d h hh hl
 rw[h38] at hck
 have hop:=xP d h hh hl (on:Int) node at0 n k p hk hp ha m hw hg hkd
 have hcl:=eE d h hh (by omega) hl
 clear hw hg hkd h38 hp
 have hon:on<7:=by omega
 obtain⟨tr,htr⟩ : ∃ tr,tr=true:=⟨_,rfl⟩
 rw[← htr] at hfm
 obtain⟨z1,hz1⟩ : ∃ z:Nat,z=0:=⟨_,rfl⟩
 rw[← hz1] at hck
 obtain⟨z2,hz2⟩ : ∃ z:Int,z=0:=⟨_,rfl⟩
 obtain⟨RO,hRO⟩ : ∃ R:Value→Fx→Prop,R=fun v F=>v = .tuple #[h.v d.length,.agg ⟨[.int .i64 (m:Int),.int .i64 1,.slice none 0 0]⟩,.int .i64 z2]∧F=⟨fun w=>By w h d,[]⟩:=⟨_,rfl⟩
 have hRO':=hRO
 rw[hz2] at hRO
 rw[← hRO] at hop
 clear hRO
 refine af.aF ab Tryz.func10 rfl (by decide) (n:=Tryz.f10.ntmps - 2) rfl rfl fun w0 av=>?_
 conv=>whnf
 repeat (refine aa.of ?_;conv=>whnf)
 intro b3
 conv=>whnf
 repeat (refine aa.of ?_;conv=>whnf)
 intro b5
 conv=>whnf
 repeat (refine aa.of ?_;conv=>whnf)
 refine ak.val hfm (fun w hw=>trivial) (fun v D hv=>?_)
 subst hv
 conv=>whnf
 repeat (refine aa.of ?_;conv=>whnf)
 refine aH.no (by rw[htr];rfl) ?_
 conv=>whnf
 repeat (refine aa.of ?_;conv=>whnf)
 refine ak.val hck (fun w hw=>hw.1) (fun v D hv=>?_)
 subst hv
 conv=>whnf
 repeat (refine aa.of ?_;conv=>whnf)
 refine aH.no (by rw[hz1];simp[ar]) ?_
 conv=>whnf
 repeat (refine aa.of ?_;conv=>whnf)
 intro b8
 conv=>whnf
 repeat (refine aa.of ?_;conv=>whnf)
 refine aI.draw ab mixed rfl rfl ?_
 conv=>whnf
 repeat' (first
  | (refine And.intro ?_ ?_<;>conv=>whnf)
  | (refine ax.same rfl ?_;conv=>whnf)
  | (refine ax.row rfl ?_;conv=>whnf)
  | (refine ax.call rfl ?_;conv=>whnf)
  | (refine bG.of ?_;conv=>whnf)
  | (refine aa.of ?_;conv=>whnf)
  | (rw[bL hon];conv=>whnf)
  | (refine cF (x:=.func (.func 22) #[] #[]) (by subst h1;rfl) ?_;conv=>whnf)
  | (refine ak.pure hop (fun w hw=>hw) (fun v D hv=>?_);rw[hRO'] at hv;obtain⟨rfl,rfl⟩:=hv;conv=>whnf)
  | (refine ax.mk ?_ ?_;(focus (first | exact aq.refl _ | exact aq.left _ _ | exact aq.of_le ⟨List.sublist_append_left _ _,fun w h=>h⟩ | exact aq.of_le ⟨List.Sublist.refl _,fun w h=>h.1⟩));conv=>whnf))
 refine aH.no (by rw[hz2];simp[ar]) ?_
 conv=>whnf
 repeat (refine aa.of ?_;conv=>whnf)
 refine aI.draw ab mixed rfl rfl ?_
 conv=>whnf
 repeat' (first
  | (refine And.intro ?_ ?_<;>conv=>whnf)
  | (refine ax.same rfl ?_;conv=>whnf)
  | (refine ax.row rfl ?_;conv=>whnf)
  | (refine ax.call rfl ?_;conv=>whnf)
  | (refine bG.of ?_;conv=>whnf)
  | (refine aa.of ?_;conv=>whnf)
  | (refine ak.pure hcl (fun w hw=>hw.2) (fun v D hv=>?_);obtain⟨b9,c9,Z9,rfl,hc9,rfl⟩:=hv;conv=>whnf)
  | (refine ax.mk ?_ ?_;(focus (first | exact aq.refl _ | exact aq.left _ _ | exact aq.of_le ⟨List.sublist_append_left _ _,fun w h=>h⟩ | exact aq.of_le ⟨List.Sublist.refl _,fun w h=>h.1⟩));conv=>whnf))
 all_goals exact⟨_,aq.refl _,⟨some ⟨b9,0,none⟩,c9⟩,rfl⟩
theorem BN (d:List UInt8) (h:Hd) (hh:h.Ok d.length) (hd:d.length=12288) (on m bX cntN:Nat) (node at0 n:Int) (hnode:node=(m:Int)) (hat:at0=(bX:Int)) (hn:n=(cntN:Int)) (k:Hd) (h1:on=2) (h2:m≤31) (hof:bX≤9223372036854775807) (h4:cntN≤1536) (h38:aM d=0) (hg:a7 d m=0) (hkd:rk d m=1) :
 af Tryz.prog 10 [h.v d.length,.agg ⟨dD (on:Int) node at0 n k 0⟩] (fun w=>By w h d) (fun v F=>∃ h2 kb:Hd,v = .tuple #[h2.v d.length,.agg ⟨[.int .i64 ((((ay d m).drop bX).take cntN).length:Int),.int .i64 0,kb.v (((ay d m).drop bX).take cntN).length]⟩,.int .i64 0]∧
  kb.Ok (((ay d m).drop bX).take cntN).length∧∃ rs,F=⟨fun w=>By w h d∧By w kb (((ay d m).drop bX).take cntN),rs⟩):=by
 have hl:d.length≤1000000:=by omega
 have hfm:=uN (on:Int) node at0 n k 0 (by omega) (by omega) (by omega) (by omega) rfl
 have hck:=gg d h hh hl
 rw[h38] at hck
 have hop:=oS d h hh hl (on:Int) m bX cntN k 0 hof (by omega) hg hkd
 rw[← hnode,← hat,← hn] at hop
 have hcl:=eE d h hh (by omega) hl
 clear hg hkd h38 hnode hat hn
 generalize ((ay d m).drop bX).take cntN=c at *
 have hon:on<7:=by omega
 obtain⟨tr,htr⟩ : ∃ tr,tr=true:=⟨_,rfl⟩
 rw[← htr] at hfm
 obtain⟨z1,hz1⟩ : ∃ z:Nat,z=0:=⟨_,rfl⟩
 rw[← hz1] at hck
 obtain⟨z2,hz2⟩ : ∃ z:Int,z=0:=⟨_,rfl⟩
 obtain⟨RO,hRO⟩ : ∃ R:Value→Fx→Prop,R=fun v F=>∃ kb:Hd,v = .tuple #[h.v d.length,.agg ⟨[.int .i64 (c.length:Int),.int .i64 0,kb.v c.length]⟩,.int .i64 z2]∧kb.Ok c.length∧F=⟨fun w=>By w h d∧By w kb c,[]⟩:=⟨_,rfl⟩
 have hRO':=hRO
 rw[hz2] at hRO
 rw[← hRO] at hop
 clear hRO
 refine af.aF ab Tryz.func10 rfl (by decide) (n:=Tryz.f10.ntmps - 2) rfl rfl fun w0 av=>?_
 conv=>whnf
 repeat (refine aa.of ?_;conv=>whnf)
 intro b3
 conv=>whnf
 repeat (refine aa.of ?_;conv=>whnf)
 intro b5
 conv=>whnf
 repeat (refine aa.of ?_;conv=>whnf)
 refine ak.val hfm (fun w hw=>trivial) (fun v D hv=>?_)
 subst hv
 conv=>whnf
 repeat (refine aa.of ?_;conv=>whnf)
 refine aH.no (by rw[htr];rfl) ?_
 conv=>whnf
 repeat (refine aa.of ?_;conv=>whnf)
 refine ak.val hck (fun w hw=>hw) (fun v D hv=>?_)
 subst hv
 conv=>whnf
 repeat (refine aa.of ?_;conv=>whnf)
 refine aH.no (by rw[hz1];simp[ar]) ?_
 conv=>whnf
 repeat (refine aa.of ?_;conv=>whnf)
 intro b8
 conv=>whnf
 repeat (refine aa.of ?_;conv=>whnf)
 refine aI.draw ab mixed rfl rfl ?_
 conv=>whnf
 repeat' (first
  | (refine And.intro ?_ ?_<;>conv=>whnf)
  | (refine ax.same rfl ?_;conv=>whnf)
  | (refine ax.row rfl ?_;conv=>whnf)
  | (refine ax.call rfl ?_;conv=>whnf)
  | (refine bG.of ?_;conv=>whnf)
  | (refine aa.of ?_;conv=>whnf)
  | (rw[bL hon];conv=>whnf)
  | (refine cF (x:=.func (.func 23) #[] #[]) (by subst h1;rfl) ?_;conv=>whnf)
  | (refine ak.pure hop (fun w hw=>hw) (fun v D hv=>?_);rw[hRO'] at hv;obtain⟨kb,rfl,hkb,rfl⟩:=hv;conv=>whnf)
  | (refine ax.mk ?_ ?_;(focus (first | exact aq.refl _ | exact aq.left _ _ | exact aq.of_le ⟨List.sublist_append_left _ _,fun w h=>h⟩ | exact aq.of_le ⟨List.Sublist.refl _,fun w h=>h.1⟩));conv=>whnf))
 refine aH.no (by rw[hz2];simp[ar]) ?_
 conv=>whnf
 repeat (refine aa.of ?_;conv=>whnf)
 refine aI.draw ab mixed rfl rfl ?_
 conv=>whnf
 repeat' (first
  | (refine And.intro ?_ ?_<;>conv=>whnf)
  | (refine ax.same rfl ?_;conv=>whnf)
  | (refine ax.row rfl ?_;conv=>whnf)
  | (refine ax.call rfl ?_;conv=>whnf)
  | (refine bG.of ?_;conv=>whnf)
  | (refine aa.of ?_;conv=>whnf)
  | (refine ak.pure hcl (fun w hw=>hw.1) (fun v D hv=>?_);obtain⟨b9,c9,Z9,rfl,hc9,rfl⟩:=hv;conv=>whnf)
  | (refine ax.mk ?_ ?_;(focus (first | exact aq.refl _ | exact aq.left _ _ | exact aq.of_le ⟨List.sublist_append_left _ _,fun w h=>h⟩ | exact aq.of_le ⟨List.Sublist.refl _,fun w h=>h.1⟩));conv=>whnf))
 all_goals exact⟨⟨fun w=>By w h d∧By w kb c,[(b9,Row.c (d.map ao++Z9))]⟩,aq.of_le ⟨by simp[Fx.and],fun w hw=>⟨hw.1.1,hw.1.2.2⟩⟩,⟨some ⟨b9,0,none⟩,c9⟩,kb,rfl,hkb,_,rfl⟩
structure Wo (d:List UInt8) (n:Nat) (i j:Nat) (o:List UInt8) (b:Nat→Nat):Prop where
 len:o.length=12288
 has : ∀ q,i≤q→q<j→b q≠0
 old : ∀ q,rb d n q≠0→b q=rb d n q
 rest : ∀ q,(q<i∨j≤q)→b q=rb d n q
 new : ∀ q,q<12→b q≠0→rb d n q=0→18≤b q∧b q<96∧da (bA d) (b q)=false∧∀ r,r<128→aJ o (128*b q+r)=0
 inj : ∀ q q',q<12→q'<12→b q≠0→b q=b q'→q=q'
 bits : ∀ j,da (bA o) j=true↔da (bA d) j=true∨∃ q,q<12∧b q≠0∧b q=j
 byts : ∀ m,¬ (1664≤m∧m<1676)→(∀ q,q<12→b q≠0→rb d n q=0→m/128≠b q)→aJ o m=aJ d m
end Go.Proofs.YtfeoedkmndkbjaaGreatDoor
namespace Go.Sx
open Go
set_option linter.unusedVariables false
section
variable {P:Program} {aK:fk} {w0:World} {R:Nat→Nat→Prop} {av:Nat→Prop} {bs:List (Nat×Nat)} {cs:List (List Value)} {F:Fx}
end
end Go.Sx
namespace Go.Proofs.YtfeoedkmndkbjaaGreatDoor
open Go Go.Sx
set_option maxRecDepth 100000
set_option maxHeartbeats 4000000
set_option linter.unusedVariables false
set_option linter.unusedSimpArgs false
noncomputable def oq (d:List UInt8) (m:Nat):Nat:=if a7 d m=0∧rk d m=2 then 14 else a7 d m
theorem jx {d:List UInt8} (h:aM d=0) {m:Nat} (hm:oq d m=0):m<32∧a7 d m=0∧rk d m=1:=by
 obtain⟨h0,-,-⟩:=bx h
 obtain⟨hd,hok⟩:=bl h0
 unfold oq at hm
 by_cases hc:a7 d m=0∧rk d m=2
 · rw[if_pos hc] at hm
   cases hm
 rw[if_neg hc] at hm
 obtain⟨h1,h2⟩:=(di h0).1 hm
 refine⟨h1,hm,?_⟩
 have hf:=hok.form m h1
 unfold cH at hf
 rw[Bool.and_eq_true] at hf
 have hf2:=hf.2
 have hnz2 : ¬ jB (rk d m) (rs d m) (rb d m)=true:=fun h=>h2 (cW.1 h).1
 rw[if_neg hnz2,decide_eq_true_eq] at hf2
 have:rk d m≠2:=fun h=>hc ⟨hm,h⟩
 rcases hf2.1 with h5 | h5
 · exact h5
 · exact absurd h5 this
theorem lu (d:List UInt8) (h:Hd) (hh:h.Ok d.length) (hl:d.length≤1000000) (m:Nat) :
 af Tryz.prog 48 [h.v d.length,.int .i64 (m:Int)] (fun w=>By w h d) (fun v F=>v = .tuple #[.agg ⟨na d m⟩,.int .i64 (oq d m:Int)]):=by
 have hgs:=jl d h hh hl (m:Int)
 have hpf:oq d m=if a7 d m=0∧rk d m=2 then 14 else a7 d m:=rfl
 generalize oq d m=e at *
 obtain⟨k1,s1,b1,hL,hE⟩:=cJ d (m:Int)
 rw[hL] at hgs ⊢
 have hk1:a7 d m=0→k1=rk d m:=fun hg=>by
  have:=(hE hg).1
  rwa [Int.toNat_natCast] at this
 clear hE hL
 generalize a7 d m=g at *
 generalize rk d m=r at *
 refine af.aF ab Tryz.func48 rfl (by decide) (n:=Tryz.f48.ntmps - 2) rfl rfl fun w0 av=>?_
 conv=>whnf
 repeat (refine aa.of ?_;conv=>whnf)
 intro b4
 conv=>whnf
 repeat (refine aa.of ?_;conv=>whnf)
 refine ak.val hgs (fun w hw=>hw) (fun v D hv=>?_)
 subst hv
 conv=>whnf
 repeat (refine aa.of ?_;conv=>whnf)
 intro b6
 conv=>whnf
 repeat (refine aa.of ?_;conv=>whnf)
 generalize hq1:cN (g:Int) 0=q1
 cases q1
 · have hg:g≠0:=by
    simp[aD] at hq1
    omega
   rw[if_neg fun h=>hg h.1] at hpf
   subst hpf
   conv=>whnf
   repeat (refine aa.of ?_;conv=>whnf)
   exact⟨_,aq.refl _,rfl⟩
 have hg:g=0:=by
  simp[aD] at hq1
  omega
 have hk:=hk1 hg
 conv=>whnf
 repeat (refine aa.of ?_;conv=>whnf)
 refine aH.split (fun hc=>?_) (fun hc=>?_)
 · have hr:r=2:=by
    simp[aD] at hc
    omega
   rw[if_pos ⟨hg,hr⟩] at hpf
   subst hpf
   conv=>whnf
   repeat (refine aa.of ?_;conv=>whnf)
   exact⟨_,aq.refl _,rfl⟩
 · have hr:r≠2:=by
    simp[aD] at hc
    omega
   rw[if_neg fun h=>hr h.2] at hpf
   subst hpf
   conv=>whnf
   repeat (refine aa.of ?_;conv=>whnf)
   exact⟨_,aq.refl _,rfl⟩
def uu:Value:=.agg ⟨[.int .i64 0,.int .i64 0,.slice none 0 0]⟩
theorem vF (d:List UInt8) (h:Hd) (hh:h.Ok d.length) (hl:d.length≤1000000) (op:Int) (m:Nat) (at0 n:Int) (k:Hd) (len:Nat) (he:oq d m≠0) :
 af Tryz.prog 23 [h.v d.length,.agg ⟨dD op (m:Int) at0 n k len⟩] (fun w=>By w h d) (fun v F=>v = .tuple #[.slice none 0 0,uu,.int .i64 (oq d m:Int)]):=by
 have hfs:=lu d h hh hl m
 obtain⟨k1,s1,b1,hL,hE⟩:=cJ d (m:Int)
 rw[hL] at hfs
 clear hE hL
 generalize oq d m=e at *
 refine af.aF ab Tryz.func23 rfl (by decide) (n:=Tryz.f23.ntmps - 2) rfl rfl fun w0 av=>?_
 conv=>whnf
 repeat (refine aa.of ?_;conv=>whnf)
 intro b3
 conv=>whnf
 repeat (refine aa.of ?_;conv=>whnf)
 intro b5
 conv=>whnf
 repeat (refine aa.of ?_;conv=>whnf)
 refine ak.val hfs (fun w hw=>hw) (fun v D hv=>?_)
 subst hv
 conv=>whnf
 repeat (refine aa.of ?_;conv=>whnf)
 intro b7
 conv=>whnf
 repeat (refine aa.of ?_;conv=>whnf)
 refine aH.yes (by simp[ar];omega) ?_
 conv=>whnf
 repeat (refine aa.of ?_;conv=>whnf)
 exact⟨_,aq.refl _,rfl⟩
theorem uo (d:List UInt8) (h:Hd) (hh:h.Ok d.length) (hl:d.length≤1000000) (op:Int) (m:Nat) (at0 n:Int) (k:Hd) (len:Nat) (he:oq d m≠0) :
 af Tryz.prog 24 [h.v d.length,.agg ⟨dD op (m:Int) at0 n k len⟩] (fun w=>By w h d) (fun v F=>v = .tuple #[.slice none 0 0,uu,.int .i64 (oq d m:Int)]):=by
 have hfs:=lu d h hh hl m
 obtain⟨k1,s1,b1,hL,hE⟩:=cJ d (m:Int)
 rw[hL] at hfs
 clear hE hL
 generalize oq d m=e at *
 refine af.aF ab Tryz.func24 rfl (by decide) (n:=Tryz.f24.ntmps - 2) rfl rfl fun w0 av=>?_
 conv=>whnf
 repeat (refine aa.of ?_;conv=>whnf)
 intro b3
 conv=>whnf
 repeat (refine aa.of ?_;conv=>whnf)
 intro b5
 conv=>whnf
 repeat (refine aa.of ?_;conv=>whnf)
 refine ak.val hfs (fun w hw=>hw) (fun v D hv=>?_)
 subst hv
 conv=>whnf
 repeat (refine aa.of ?_;conv=>whnf)
 intro b7
 conv=>whnf
 repeat (refine aa.of ?_;conv=>whnf)
 refine aH.yes (by simp[ar];omega) ?_
 conv=>whnf
 repeat (refine aa.of ?_;conv=>whnf)
 exact⟨_,aq.refl _,rfl⟩
noncomputable def gF (d:List UInt8) (m:Nat) (at0:Int):Nat:=if at0 = -1 then rs d m else at0.toNat
theorem vg (d:List UInt8) (h:Hd) (hh:h.Ok d.length) (hl:d.length≤1000000) (h38:aM d=0) (op:Int) (m:Nat) (at0 n:Int) (k:Hd) (data:List UInt8) (hk:k.Ok data.length) (hdl:data.length≤1000) (he:oq d m=0) (ha : -1≤at0∧at0≤9223372036854775807) :
 af Tryz.prog 24 [h.v d.length,.agg ⟨dD op (m:Int) at0 n k data.length⟩] (fun w=>By w h d∧By w k data) (fun v F=>∃ h2:Hd,v = .tuple #[h2.v (cj d m (gF d m at0) data).1.length,.agg ⟨[.int .i64 (IntKind.i64.wrap ((gF d m at0:Int)+(data.length:Int))),.int .i64 0,.slice none 0 0]⟩,.int .i64 ((cj d m (gF d m at0) data).2:Int)]∧
  h2.Ok (cj d m (gF d m at0) data).1.length∧F=⟨fun w=>By w h2 (cj d m (gF d m at0) data).1,[]⟩):=by
 have hfs:=lu d h hh hl m
 obtain⟨hm,hg,hr⟩:=jx h38 he
 rw[he] at hfs
 obtain⟨k1,s1,b1,hL,hE⟩:=cJ d (m:Int)
 rw[hL] at hfs
 have hs1:=(hE hg).2.1
 rw[Int.toNat_natCast] at hs1
 have hsz:=vR d m
 clear hE hL
 obtain⟨off,ho⟩ : ∃ off,off=gF d m at0:=⟨_,rfl⟩
 obtain⟨offI,hoI⟩ : ∃ x:Int,x=(off:Int):=⟨_,rfl⟩
 have ho2:at0 = -1∧offI=(s1:Int)∨at0≠-1∧at0=offI:=by
  rw[hoI,ho]
  unfold gF
  by_cases h:at0 = -1
  · rw[if_pos h]
    exact .inl ⟨h,by rw[hs1]⟩
  · rw[if_neg h]
    exact .inr ⟨h,by omega⟩
 have hws:=nf d h hh hl m off (by omega) offI hoI data k hk (by omega)
 rw[← ho,← hoI]
 obtain⟨vv,hvv⟩ : ∃ vv,vv=IntKind.i64.wrap (offI+(data.length:Int)):=⟨_,rfl⟩
 rw[← hvv]
 clear ho hg hr hs1 he h38
 generalize (cj d m off data).1=d2 at *
 generalize (cj d m off data).2=e2 at *
 obtain⟨z1,hz1⟩ : ∃ z:Nat,z=0:=⟨_,rfl⟩
 rw[← hz1] at hfs
 obtain⟨q,hq⟩ : ∃ q:Bool,q=cN at0 (-1):=⟨_,rfl⟩
 refine af.aF ab Tryz.func24 rfl (by decide) (n:=Tryz.f24.ntmps - 2) rfl rfl fun w0 av=>?_
 conv=>whnf
 repeat (refine aa.of ?_;conv=>whnf)
 intro b3
 conv=>whnf
 repeat (refine aa.of ?_;conv=>whnf)
 intro b5
 conv=>whnf
 repeat (refine aa.of ?_;conv=>whnf)
 refine ak.val hfs (fun w hw=>hw.1) (fun v D hv=>?_)
 subst hv
 conv=>whnf
 repeat (refine aa.of ?_;conv=>whnf)
 intro b7
 conv=>whnf
 repeat (refine aa.of ?_;conv=>whnf)
 refine aH.no (by rw[hz1];simp[ar]) ?_
 conv=>whnf
 repeat (refine aa.of ?_;conv=>whnf)
 rcases ho2 with⟨ha1,ho3⟩ | ⟨ha1,ho3⟩
 · refine aH.yes (by rw[ha1];simp[aD]) ?_
   subst ho3
   conv=>whnf
   repeat (refine aa.of ?_;conv=>whnf)
   refine ak.pure hws (fun w hw=>hw) (fun v D hv=>?_)
   obtain⟨h2,rfl,hh2,rfl⟩:=hv
   conv=>whnf
   repeat (refine aa.of ?_;conv=>whnf)
   refine aI.draw ab mixed rfl rfl ?_
   conv=>whnf
   repeat' (first
    | (refine And.intro ?_ ?_<;>conv=>whnf)
    | (refine ax.same rfl ?_;conv=>whnf)
    | (refine ax.row rfl ?_;conv=>whnf)
    | (refine ax.call rfl ?_;conv=>whnf)
    | (refine bG.of ?_;conv=>whnf)
    | (refine aa.of ?_;conv=>whnf)
    | (refine ax.mk ?_ ?_;(focus (first | exact aq.refl _ | exact aq.left _ _ | exact aq.of_le ⟨List.sublist_append_left _ _,fun w h=>h⟩ | exact aq.of_le ⟨List.Sublist.refl _,fun w h=>h.1⟩));conv=>whnf))
   all_goals exact⟨⟨fun w=>By w h2 d2,[]⟩,aq.of_le ⟨by simp[Fx.and],fun w hw=>hw.2⟩,h2,by rw[hvv],hh2,rfl⟩
 · refine aH.no (by rw[aD];exact decide_eq_false ha1) ?_
   subst ho3
   conv=>whnf
   repeat (refine aa.of ?_;conv=>whnf)
   refine ak.pure hws (fun w hw=>hw) (fun v D hv=>?_)
   obtain⟨h2,rfl,hh2,rfl⟩:=hv
   conv=>whnf
   repeat (refine aa.of ?_;conv=>whnf)
   refine aI.draw ab mixed rfl rfl ?_
   conv=>whnf
   repeat' (first
    | (refine And.intro ?_ ?_<;>conv=>whnf)
    | (refine ax.same rfl ?_;conv=>whnf)
    | (refine ax.row rfl ?_;conv=>whnf)
    | (refine ax.call rfl ?_;conv=>whnf)
    | (refine bG.of ?_;conv=>whnf)
    | (refine aa.of ?_;conv=>whnf)
    | (refine ax.mk ?_ ?_;(focus (first | exact aq.refl _ | exact aq.left _ _ | exact aq.of_le ⟨List.sublist_append_left _ _,fun w h=>h⟩ | exact aq.of_le ⟨List.Sublist.refl _,fun w h=>h.1⟩));conv=>whnf))
   all_goals exact⟨⟨fun w=>By w h2 d2,[]⟩,aq.of_le ⟨by simp[Fx.and],fun w hw=>hw.2⟩,h2,by rw[hvv],hh2,rfl⟩
theorem sJ (e:En):af Tryz.prog 93 [.agg ⟨gQ e⟩] (fun w=>True) (fun v F=>v = .bool (!(e.1 == []))):=by
 refine af.aF ab Tryz.func93 rfl (by decide) (n:=Tryz.f93.ntmps - 1) rfl rfl fun w0 av=>?_
 conv=>whnf
 intro b1
 conv=>whnf
 repeat (refine aa.of ?_;conv=>whnf)
 refine aj.ah (ai.ph (l:=e.1) (m:=[]) ?_)
 conv=>whnf
 repeat (refine aa.of ?_;conv=>whnf)
 exact⟨_,aq.refl _,rfl⟩
theorem oB (f:FuncId) (p:En→Bool) (l:List En) (h:Hd) (hh:h.Ok l.length) (hl:l.length≤1000000) (hf : ∀ e∈l,af Tryz.prog f [.agg ⟨gQ e⟩] (fun w=>True) (fun v F=>v = .bool (p e))) :
 af Tryz.prog 92 [h.v l.length,.func (.func f) #[] #[]] (fun w=>aB w h.a (bV l)) (fun v F=>v = .bool (l.any p)):=by
 refine af.aF ab Tryz.func92 rfl (by decide) (n:=Tryz.f92.ntmps - 2) rfl rfl fun w0 av=>?_
 conv=>whnf
 refine ak.val (lZ f p l h hh hl hf) (fun w hw=>hw) (fun v D hv=>?_)
 obtain⟨j,hj⟩ : ∃ j,j=ib (l.findIdx? p):=⟨_,rfl⟩
 rw[← hj] at hv
 subst hv
 conv=>whnf
 repeat (refine aa.of ?_;conv=>whnf)
 refine⟨_,aq.refl _,?_⟩
 show Value.bool (gG j 0)=_
 congr 1
 rw[bI,hj]
 cases hq:l.findIdx? p with
 | none=>
  rw[List.findIdx?_eq_none_iff] at hq
  have:l.any p=false:=by
   rw[List.any_eq_false]
   exact fun x hx=>by simp[hq x hx]
  rw[this]
  rfl
 | some k=>
  rw[List.findIdx?_eq_some_iff_getElem] at hq
  obtain⟨hk,h1,h2⟩:=hq
  have:l.any p=true:=List.any_eq_true.2 ⟨l[k],List.getElem_mem hk,h1⟩
  rw[this]
  show decide ((k:Int)≥0)=true
  simp
theorem su (e:En) (b:Nat) (kn:Hd) (names:List (List UInt8)) (hkn:kn.Ok names.length) (hl:names.length≤1000000) (last:List UInt8) (h0:0<names.length) (hlast:names[names.length - 1]? = some last) :
 af Tryz.prog 94 [.agg ⟨gQ e⟩,.pointer (some ⟨b,0,none⟩)] (fun w=>aB w (some ⟨b,0,none⟩) [kn.v names.length]∧b_ w kn names) (fun v F=>v = .bool (e.1 == last)):=by
 have hw1:IntKind.i64.wrap ((names.length:Int) - 1)=((names.length - 1:Nat):Int):=by
  rw[wrap_i64 (by omega)]
  omega
 obtain⟨nm,nd⟩:=e
 rw[show gQ (nm,nd) = [aC nm,aE nd] from rfl]
 refine af.aF ab Tryz.func94 rfl (by decide) (n:=Tryz.f94.ntmps - 2) rfl rfl fun w0 av=>?_
 conv=>whnf
 intro b2
 conv=>whnf
 repeat (refine aa.of ?_;conv=>whnf)
 refine aI.draw ab mixed rfl rfl ?_
 conv=>whnf
 repeat' (first
  | (refine And.intro ?_ ?_<;>conv=>whnf)
  | (refine ax.same rfl ?_;conv=>whnf)
  | (refine ax.row rfl ?_;conv=>whnf)
  | (refine ax.call rfl ?_;conv=>whnf)
  | (refine bG.of ?_;conv=>whnf)
  | (refine aa.of ?_;conv=>whnf)
  | (refine ai.bS ab (t:=51) rfl rfl (ad:=⟨b,0,none⟩) (k:=0) (L:=[kn.v names.length]) (v:=kn.v names.length) (.fact fun w hw=>hw.1) (fun _=>rfl) rfl ?_;conv=>whnf)
  | (refine ai.index ab (t:=51) rfl rfl rfl (by rw[hw1];omega) (by rw[hw1];omega) hkn.nil fun ad had=>?_;conv=>whnf)
  | (refine ai.load ab (t:=9) rfl rfl (ad:=ad) (k:=names.length - 1) (L:=names.map aC) (v:=aC last) (.fact fun w hw=>had ▸ hw.2) (by rw[hw1];simp) (by rw[List.getElem?_map,hlast];rfl) ?_;conv=>whnf)
  | (refine ai.fL (l:=nm) (m:=last) ?_;conv=>whnf)
  | (refine ax.mk ?_ ?_;(focus (first | exact aq.refl _ | exact aq.left _ _ | exact aq.of_le ⟨List.sublist_append_left _ _,fun w h=>h⟩ | exact aq.of_le ⟨List.Sublist.refl _,fun w h=>h.1⟩));conv=>whnf))
 all_goals exact⟨_,aq.refl _,rfl⟩
theorem sG {l:List (List UInt8)} (h:l≠[]):l=l.dropLast ++ [l.getLastD []]:=by
 have h1:=List.dropLast_concat_getLast h
 have h3:l.getLast? = some (l.getLastD []):=by
  rw[List.getLast?_eq_getElem?]
  exact eG h
 have h2:l.getLastD []=l.getLast h:=by
  have h4:l.getLast? = some (l.getLast h):=List.getLast?_eq_some_getLast h
  rw[h4] at h3
  exact(Option.some.inj h3).symm
 rw[h2]
 exact h1.symm
theorem uY {d:List UInt8} (h38:aM d=0) {names:List (List UInt8)} (hn:names≠[]) (hv : ∀ s∈names,cK s=true) {m:Nat} (hm:aT d names 0=(m,0)) :
 ∃ at0 k,(T0 d).walk names.dropLast 0=(at0,0)∧at0∈(T0 d).dl∧db ((T0 d).E at0) (names.getLastD [])=some k∧k<8∧m<32∧rk d m≠0∧
  aT d names.dropLast 0=(at0,0):=by
 obtain⟨h0,hG,hE⟩:=bx h38
 have hroot:=j2 h0
 obtain⟨hr1,hr2⟩:=bY.1 hroot
 have hvn : ∀ s∈names,s≠[]:=fun s hs h=>by
  have:=hv s hs
  rw[h] at this
  cases this
 have hs:=sG hn
 have hm':=hm
 rw[hs] at hm
 obtain⟨at0,k,f1,f2,f3,f4⟩:=k9 _ _ hm
 obtain⟨w1,w2⟩:=dY h38 names.dropLast 0 hr1 (by omega) fun s hs=>hvn s (List.dropLast_subset _ hs)
 obtain⟨v1,v2⟩:=dY h38 names 0 hr1 (by omega) hvn
 rw[f1] at w1 w2
 rw[hm'] at v2
 obtain⟨q1,q2⟩:=w2 rfl
 obtain⟨q3,q4⟩:=v2 rfl
 have hd:at0∈(T0 d).dl:=Classical.byContradiction fun h=>by
  rw[jw h38 q1 q2 h] at f2
  cases f2
 rw[fI h38 hd] at f3
 have hk:=fH f3
 rw[(pg d).len] at hk
 exact⟨at0,k,w1,hd,f3,hk,q3,q4,f1⟩
theorem yr {d:List UInt8} (h38:aM d=0) {at0 k:Nat} (hd:at0∈(T0 d).dl) (hk:k<8) :
 (bQ d at0 (il (((T0 d).E at0).set k ([],0)))).1=eX d at0 k (iF ([],0)):=by
 obtain⟨h0,hG,hE⟩:=bx h38
 obtain⟨hat1,hat2⟩:=bY.1 hd
 obtain⟨hdl,hok⟩:=bl h0
 obtain⟨hcc,hb96⟩:=gJ h0 hat1 hat2
 have hcl:(ay d at0).length=128:=by rw[hcc];exact aZ (by omega)
 have hw:=jQ h0 hat1 hat2 hcl (ec.1 (hE at0 hd)) (fun i hi=>by rw[hcc,a8 (by omega) hi]) hk (x:=([],0)) (by decide)
 rw[show(T0 d).E at0=eA (ay d at0) 8 from rfl,hw]
theorem vj (d:List UInt8) (h:Hd) (hh:h.Ok d.length) (hl:d.length≤1000000) (p:List UInt8) (hp:p.length≤200) :
 af Tryz.prog 50 [h.v d.length,aC p] (fun w=>By w h d) (fJ (dc d p).1 (dc d p).2):=by
 obtain⟨M,hM⟩ : ∃ x,x=dc d p:=⟨_,rfl⟩
 rw[← hM]
 unfold dc at hM
 refine af.aF ab Tryz.func50 rfl (by decide) (n:=Tryz.f50.ntmps - 2) rfl rfl fun w0 av=>?_
 conv=>whnf
 have hos:=h_ d h hh hl
 rw[iu] at hos
 refine ak.pure hos (fun w hw=>hw) (fun v D hv=>?_)
 unfold lW at hv
 split at hv
 rotate_left
 · rename_i he
   rw[if_pos he] at hM
   rw[hM]
   obtain⟨q,rfl,rfl⟩:=hv
   generalize aM d=e at *
   conv=>whnf
   repeat (refine aa.of ?_;conv=>whnf)
   refine aH.yes (by simp[ar];omega) ?_
   conv=>whnf
   repeat (refine aa.of ?_;conv=>whnf)
   exact bN
 rename_i h38
 rw[if_neg (by rw[h38];simp)] at hM
 have hc0:=rZ h38
 obtain⟨bt,bm,H,hH,rfl,rfl⟩:=hv
 have hTok:=fp d hH
 have hwc:=mD d H fun _=>mf
 obtain⟨e0,he0⟩ : ∃ e:Nat,e=aM d:=⟨_,rfl⟩
 rw[← he0]
 have he0':=he0
 rw[h38] at he0
 have hm1:(dv (h.v d.length) bm (aG d H).K 32)[1]? = some (.map (some bm)):=rfl
 have hsm:=eK p hp
 have hsn:=dH p
 have hse:=fv p
 have hsp:=iw p hp
 generalize aL p=sp at *
 obtain⟨names,se⟩:=sp
 dsimp only at hM hsm hsn hse
 conv=>whnf
 repeat (refine aa.of ?_;conv=>whnf)
 refine aH.no (by subst he0;simp[ar]) ?_
 conv=>whnf
 repeat (refine aa.of ?_;conv=>whnf)
 refine ak.pure hsp (fun w hw=>trivial) (fun v D hv=>?_)
 obtain⟨kn,rfl,hkn,rfl⟩:=hv
 dsimp only at hkn ⊢
 conv=>whnf
 repeat (refine aa.of ?_;conv=>whnf)
 refine aj.w_ ab (e:=51) rfl (z:=[.slice none 0 0]) rfl fun b8=>?_
 conv=>whnf
 repeat (refine aa.of ?_;conv=>whnf)
 have hTA : ∀ w,bU (aG d H) (h.v d.length) bt bm w→aB w (some ⟨bt,0,none⟩) (dv (h.v d.length) bm (aG d H).K 32):=fun w hw=>hw.1
 have hTM : ∀ w,bU (aG d H) (h.v d.length) bt bm w→jm w bm ((aG d H).kv (aG d H).dl):=fun w hw=>hw.2.1
 have hTE : ∀ w,bU (aG d H) (h.v d.length) bt bm w→∀ n∈(T0 d).dl,aB w (H n).a (bV ((T0 d).E n)):=fun w hw=>hw.2.2
 have hkvk:=(aG d H).ld (aG d H).dl
 have hkvv : ∀ n (i:Nat) u,((aG d H).kv (aG d H).dl)[i]? = some (aE n,u)→u = .slice (H n).a 8 (H n).c:=fun n=>(aG d H).qN
 have hkvi : ∀ n,n∈(T0 d).dl→∃ p∈(aG d H).kv (aG d H).dl,p.1=aE n:=fun n hn=>(aG d H).wz hn
 have hkvn : ∀ n,n ∉ (T0 d).dl→∀ p∈(aG d H).kv (aG d H).dl,p.1≠aE n:=fun n hn=>(aG d H).zA hn
 have htw:=fun k l hk hll=>mC (aG d H) hTok (h.v d.length) bt bm k l hk hll
 simp only[hwc] at htw
 have hT0:(aG d fun _=>mf)=T0 d:=rfl
 rw[hT0] at htw
 have hEl : ∀ n,((T0 d).E n).length=8:=(pg d).len
 generalize bU (aG d H) (h.v d.length) bt bm=TA at *
 generalize (aG d H).kv (aG d H).dl=KV at *
 generalize dv (h.v d.length) bm (aG d H).K 32=TC at *
 refine a_.c_ (F':=⟨fun w=>By w h d∧TA w∧b_ w kn names,[] ++ [(b8,Row.c [.slice none 0 0])] ++ []⟩) (aq.of_le ⟨by simp[Fx.and],fun w hw=>⟨hw.1.1,hw.1.2,hw.2⟩⟩) ?_
 refine a_.cE ab (t:=51) rfl (r1:=[]) (r2:=[]) (b:=b8) (k:=0) (C:=[.slice none 0 0]) (v:=kn.v names.length) rfl rfl (by simp[Value.cells,aO,Hd.v]) (by decide) ?_
 rw[show laid [Value.slice none 0 0] 0 (kn.v names.length).cells.toList = [kn.v names.length] from rfl]
 have hld : ∀ {K:Value→Prop} {F:Fx} {bs cs},(b8,Row.c [kn.v names.length])∈F.rs→K (kn.v names.length)→ai Tryz.prog w0 (fun _ _=>False) av (Instr.loadAt 51 (.pointer (some ⟨b8,0,none⟩))) bs cs F K:=fun {K F bs cs} hm hK=>
  ai.bS ab (t:=51) rfl rfl (ad:=⟨b8,0,none⟩) (k:=0) (L:=[kn.v names.length]) (v:=kn.v names.length) (bp.row hm) (fun _=>rfl) rfl hK
 conv=>whnf
 repeat (refine aa.of ?_;conv=>whnf)
 refine aH.split (fun hs=>?_) (fun hs=>?_)
 · have hs':se≠0:=by
    simpa [ar] using hs
   rw[if_pos hs'] at hM
   rw[hM]
   have:se=15:=(hse.resolve_left hs').1
   subst this
   conv=>whnf
   repeat (refine aa.of ?_;conv=>whnf)
   exact bN
 have hs':se=0:=by
  simpa [ar] using hs
 rw[if_neg (by omega)] at hM
 conv=>whnf
 repeat (refine aa.of ?_;conv=>whnf)
 refine aj.ah (hld (by simp) ?_)
 conv=>whnf
 repeat (refine aa.of ?_;conv=>whnf)
 refine aH.split (fun hn=>?_) (fun hn=>?_)
 · have hn':names = []:=by
    simp[aD] at hn
    exact hn
   rw[if_pos hn'] at hM
   rw[hM]
   conv=>whnf
   repeat (refine aa.of ?_;conv=>whnf)
   exact bN
 have hn':names≠[]:=by
  simp[aD] at hn
  exact hn
 rw[if_neg hn'] at hM
 have hlen:0<names.length:=List.length_pos_iff.2 hn'
 have hw1:IntKind.i64.wrap ((names.length:Int) - 1)=((names.length - 1:Nat):Int):=by
  rw[wrap_i64 (by omega)]
  omega
 have hvn : ∀ s∈names,s≠[]:=fun s hs h=>by
  have:=hsn s hs
  rw[h] at this
  cases this
 obtain⟨hr1,hr2⟩:=bY.1 (j2 hc0)
 obtain⟨hwf,hwv⟩:=dY h38 names 0 hr1 (by omega) hvn
 have hw0:=htw kn names hkn hsm
 rw[hwf] at hw0
 have huf:=@uY d h38 names hn' hsn
 have hueq:=@yr d h38
 have hfil : ∀ n,n<32→rk d n≠0→n ∉ (T0 d).dl→cT d n=([],14):=fun n h1 h2 h3=>jw h38 h1 h2 h3
 have hdir : ∀ n:Nat,n∈(T0 d).dl→cT d n=((T0 d).E n,0):=fun n h1=>fI h38 h1
 generalize hfo:aT d names 0=fr at *
 obtain⟨m,fe⟩:=fr
 dsimp only at hM hw0 hwv
 conv=>whnf
 repeat (refine aa.of ?_;conv=>whnf)
 refine aj.ah (hld (by simp) ?_)
 conv=>whnf
 repeat (refine aa.of ?_;conv=>whnf)
 refine ak.val hw0 (fun w hw=>⟨hw.2.1,hw.2.2⟩) (fun v D hv=>?_)
 unfold fc at hv
 subst hv
 conv=>whnf
 repeat (refine aa.of ?_;conv=>whnf)
 refine aH.split (fun hf=>?_) (fun hf=>?_)
 · have hf':fe≠0:=by
    simp[ar] at hf
    omega
   rw[if_pos hf'] at hM
   rw[hM]
   conv=>whnf
   repeat (refine aa.of ?_;conv=>whnf)
   exact bN
 have hf':fe=0:=by
  simp[ar] at hf
  omega
 rw[if_neg (by omega)] at hM
 subst hf'
 obtain⟨at0,k,u1,u2,u3,u4,u5,u6,u7⟩:=huf rfl
 rw[u7] at hM
 dsimp only at hM
 rw[hdir at0 u2] at hM
 dsimp only at hM
 rw[u3] at hM
 dsimp only[Option.getD] at hM
 rw[hueq u2 u4] at hM
 have hss:=wU d h hh hc0 at0 (bY.1 u2).1 (bY.1 u2).2 k u4 ([],0) (by decide) (by decide)
 have hfs:=fun k2 hk2 hl2=>yh (eX d at0 k (iF ([],0))) k2 hk2 hl2 m
 have hwl:=mT (bl hc0).1 (bl hc0).2 (bY.1 u2).1 (bY.1 u2).2 u4 (jZ (e:=(([],0):En)) (by decide))
 generalize eX d at0 k (iF ([],0))=d2 at *
 obtain⟨es,hes⟩ : ∃ es,es=(T0 d).es m:=⟨_,rfl⟩
 have hM2:M=if es.any (fun e=>!(e.1 == [])) then ([],12) else ey d2 m:=by
  rw[hM]
  by_cases hmd:m∈(T0 d).dl
  · have he:es=(T0 d).E m:=by rw[hes];exact if_pos hmd
    rw[hdir m hmd,he]
    by_cases hq : ∃ e∈(T0 d).E m,e.1≠[]
    · rw[if_pos ⟨rfl,hq⟩,if_pos]
      obtain⟨e,he1,he2⟩:=hq
      exact List.any_eq_true.2 ⟨e,he1,by simpa using he2⟩
    · rw[if_neg fun h=>hq h.2,if_neg]
      rw[List.any_eq_true]
      rintro⟨e,he1,he2⟩
      exact hq ⟨e,he1,by simpa using he2⟩
  · have he:es = []:=by rw[hes];exact if_neg hmd
    rw[hfil m u5 u6 hmd,he]
    rw[if_neg (fun h=>by cases h.1),if_neg (by simp)]
 clear hM
 obtain⟨hE,hEo,hrow,hval⟩ : ∃ hE:Hd,hE.Ok es.length∧(∀ w,TA w→aB w hE.a (bV es))∧((m∈(T0 d).dl∧hE.v es.length = .slice (H m).a 8 (H m).c)∨(m ∉ (T0 d).dl∧hE.v es.length = .slice none 0 0)):=by
  by_cases hmem:m∈(T0 d).dl
  · have he:es=(T0 d).E m:=by rw[hes];exact if_pos hmem
    refine⟨H m,by rw[he,hEl];exact hH m,fun w hw=>by rw[he];exact hTE w hw m hmem,.inl ⟨hmem,by rw[he,hEl]⟩⟩
  · have he:es = []:=by rw[hes];exact if_neg hmem
    exact⟨Hd.nil,by rw[he];exact Hd.dq,fun w hw=>by rw[he];exact aB.xO,.inr ⟨hmem,by rw[he];rfl⟩⟩
 have hes8:es.length≤8:=by
  rw[hes]
  unfold Tree.es
  split
  · rw[hEl];exact Nat.le_refl _
  · exact Nat.zero_le _
 have hlook : ∀ {K:Value→Prop} {F:Fx} {bs cs},(∀ w,F.D w→TA w)→K (hE.v es.length)→ai Tryz.prog w0 (fun _ _=>False) av (Instr.lookup 114 (.map (some bm)) (.int .i64 (m:Int)) false) bs cs F K:=by
  intro K F bs cs hF hK
  rcases hval with⟨hmem,hval⟩ | ⟨hmem,hval⟩
  · rw[hval] at hK
    exact ai.eg ab (t:=114) rfl rfl rfl rfl (df.fact fun w hw=>hTM w (hF w hw)) rfl hkvk (v:=.slice (H m).a 8 (H m).c) (hkvv m) (hkvi m hmem) hK
  · rw[hval] at hK
    exact ai.iD ab (t:=114) rfl rfl rfl rfl (df.fact fun w hw=>hTM w (hF w hw)) rfl hkvk (hkvn m hmem) (z:=.slice none 0 0) rfl hK
 have hcn:=oB 93 (fun e=>!(e.1 == [])) es hE hEo (by omega) (fun e _=>sJ e)
 generalize hany:es.any (fun e=>!(e.1 == []))=an at *
 have hlast:=eG hn'
 generalize names.getLastD []=last at *
 have hdlt:names.dropLast=names.take (names.length - 1):=List.dropLast_eq_take
 rw[hdlt] at u1
 have hw2:=htw kn (names.take (names.length - 1)) ⟨fun h0=>by have:=hkn.nil h0;omega,by have:=hkn.cap;rw[List.length_take];omega⟩ (by rw[List.length_take];omega)
 rw[u1,List.length_take,Nat.min_eq_left (by omega)] at hw2
 obtain⟨z0,hz0⟩ : ∃ z0:Nat,z0=0:=⟨_,rfl⟩
 have hix:=jS 94 (fun w=>aB w (some ⟨b8,0,none⟩) [kn.v names.length]∧b_ w kn names) (fun e=>e.1 == last) (.pointer (some ⟨b8,0,none⟩)) ((T0 d).E at0) (H at0) (by rw[hEl];exact hH at0) (by rw[hEl];decide) (fun e _=>su e b8 kn names hkn hsm last hlen hlast)
 rw[hEl,show((T0 d).E at0).findIdx? (fun e=>e.1 == last)=db ((T0 d).E at0) last from rfl,u3] at hix
 have hkf:ib (some k)=(k:Int):=rfl
 rw[hkf] at hix
 have hTEa : ∀ w,TA w→aB w (H at0).a (bV ((T0 d).E at0)):=fun w hw=>hTE w hw at0 u2
 generalize (T0 d).E at0=Ea at *
 conv=>whnf
 repeat (refine aa.of ?_;conv=>whnf)
 refine aj.ah (ai.bS ab (t:=114) rfl rfl (ad:=⟨bt,0,none⟩) (k:=1) (L:=TC) (v:=.map (some bm)) (.fact fun w hw=>hTA w hw.2.1) (fun _=>rfl) hm1 ?_)
 conv=>whnf
 repeat (refine aa.of ?_;conv=>whnf)
 refine aj.ah (hlook (fun w hw=>hw.2.1) ?_)
 conv=>whnf
 repeat (refine aa.of ?_;conv=>whnf)
 refine ak.val hcn (fun w hw=>hrow w hw.2.1) (fun v D hv=>?_)
 subst hv
 cases an
 rotate_left
 · rw[if_pos rfl] at hM2
   rw[hM2]
   conv=>whnf
   repeat (refine aa.of ?_;conv=>whnf)
   exact bN
 rw[if_neg (by simp)] at hM2
 conv=>whnf
 repeat (refine aa.of ?_;conv=>whnf)
 refine aj.ah (hld (by simp) ?_)
 conv=>whnf
 repeat (refine aa.of ?_;conv=>whnf)
 refine aj.ah (hld (by simp) ?_)
 conv=>whnf
 repeat (refine aa.of ?_;conv=>whnf)
 refine aj.ah (ai.gA ab (t:=51) rfl rfl rfl (names.length - 1) hw1 (Nat.le_trans (by omega) hkn.cap) ?_)
 conv=>whnf
 repeat (refine aa.of ?_;conv=>whnf)
 refine ak.val hw2 (fun w hw=>⟨hw.2.1,?_⟩) (fun v D hv=>?_)
 · have:=aB.take hw.2.2 (names.length - 1)
   unfold b_
   rw[List.map_take]
   exact this
 unfold fc at hv
 subst hv
 conv=>whnf
 repeat (refine aa.of ?_;conv=>whnf)
 refine aj.ah (ai.bS ab (t:=114) rfl rfl (ad:=⟨bt,0,none⟩) (k:=1) (L:=TC) (v:=.map (some bm)) (.fact fun w hw=>hTA w hw.2.1) (fun _=>rfl) hm1 ?_)
 conv=>whnf
 repeat (refine aa.of ?_;conv=>whnf)
 refine aj.ah (ai.eg ab (t:=114) rfl rfl rfl rfl (df.fact fun w hw=>hTM w hw.2.1) rfl hkvk (v:=.slice (H at0).a 8 (H at0).c) (hkvv at0) (hkvi at0 u2) ?_)
 conv=>whnf
 repeat (refine aa.of ?_;conv=>whnf)
 refine ak.look hix (Loc.and (Loc.row _ _) (Loc.and (Loc.row _ _) (Loc.row _ _))) (fun w hst=>⟨hTEa w hst.now.2.1,bp.row (by simp) w hst,hst.now.2.2⟩) ?_
 conv=>whnf
 repeat (refine aa.of ?_;conv=>whnf)
 refine ak.pure hss (fun w hw=>hw.1) (fun v D hv=>?_)
 obtain⟨k2,rfl,hk2,rfl⟩:=hv
 have hfs2:=hfs k2 hk2 (by omega)
 rw[hM2]
 generalize ey d2 m=FR at *
 conv=>whnf
 repeat (refine aa.of ?_;conv=>whnf)
 refine ak.pure hfs2 (fun w hw=>hw.2) (fun v D hv=>?_)
 obtain⟨k3,rfl,hk3,rfl⟩:=hv
 conv=>whnf
 repeat (refine aa.of ?_;conv=>whnf)
 exact⟨⟨fun w=>By w k3 FR.1,[]⟩,aq.bare fun w hw=>hw.2,k3,rfl,hk3,rfl⟩
end Go.Proofs.YtfeoedkmndkbjaaGreatDoor
namespace Go.Sx
open Go
theorem af.pre {P:Program} {f:FuncId} {vs:List Value} {Pre Pre':World→Prop} {Rel:Value→Fx→Prop} (h:af P f vs Pre Rel) (hp : ∀ w,Pre' w→Pre w):af P f vs Pre' Rel:=by
 unfold af at h ⊢
 exact⟨h.1,fun av w hav hq=>h.2 av w hav (hq.imp hp)⟩
end Go.Sx
namespace Go.Proofs.YtfeoedkmndkbjaaGreatDoor
open Go Go.Sx
set_option maxRecDepth 100000
set_option maxHeartbeats 4000000
set_option linter.unusedVariables false
set_option linter.unusedSimpArgs false
noncomputable def iX (d:List UInt8) (m off cnt:Nat):Rs:=
 if oq d m≠0 then .err (oq d m) else ⟨d,((((ay d m).drop off).take cnt).length:Int),0,((ay d m).drop off).take cnt,0⟩
noncomputable def lL (d:List UInt8) (m:Nat) (at0:Int) (data:List UInt8):Rs:=
 if oq d m≠0 then .err (oq d m) else if (cj d m (gF d m at0) data).2≠0 then .err (cj d m (gF d m at0) data).2
 else ⟨(cj d m (gF d m at0) data).1,IntKind.i64.wrap ((gF d m at0:Int)+(data.length:Int)),0,[],0⟩
noncomputable def jD (d p:List UInt8):Rs:=if (dc d p).2≠0 then .err (dc d p).2 else ⟨(dc d p).1,0,0,[],0⟩
noncomputable def lM (d p:List UInt8):Rs:=if (bE d p 2).2.2≠0 then .err (bE d p 2).2.2 else ⟨(bE d p 2).2.1,0,0,[],0⟩
theorem jr {e:Nat} (he:e≠0) {v:Value} {F:Fx} (hv:v = .tuple #[.slice none 0 0,uu,.int .i64 (e:Int)]):cZ (.err e) v F:=by
 subst hv
 exact dG (r:=.err e) he Hd.nil Hd.nil 0 0 0 0 F
theorem m_ {d2:List UInt8} {e:Nat} {k2:Hd} (hk:k2.Ok d2.length) {D:World→Prop} (hD : ∀ w,D w→By w k2 d2) :
 ∃ F',aq ⟨D,[]⟩ F'∧cZ (if e≠0 then .err e else ⟨d2,0,0,[],0⟩) (.tuple #[k2.v d2.length,uu,.int .i64 (e:Int)]) F':=by
 by_cases he:e=0
 · rw[if_neg (by rw[he];simp),he]
   refine⟨⟨fun w=>By w k2 d2∧By w Hd.nil [],[]⟩,aq.imp fun w hw=>⟨hD w hw,By.nil w⟩,?_⟩
   unfold cZ
   rw[if_pos rfl]
   exact⟨k2,Hd.nil,rfl,hk,Hd.dq,rfl⟩
 · rw[if_pos he]
   exact⟨_,aq.refl _,dG (r:=.err e) he k2 Hd.nil _ 0 0 0 _⟩
section
variable (d:List UInt8) (h:Hd) (hh:h.Ok d.length) (hl:d.length≤1000000) (h38:aM d=0)
include hh hl
include h38 in
theorem wk (op:Int) (m bX cntN:Nat) (k:Hd) (len:Nat) (hof:bX≤9223372036854775807) (hcn:cntN≤1536) :
 af Tryz.prog 23 [h.v d.length,.agg ⟨dD op (m:Int) (bX:Int) (cntN:Int) k len⟩] (fun w=>By w h d) (cZ (iX d m bX cntN)):=by
 unfold iX
 by_cases he:oq d m=0
 · obtain⟨-,hg,hr⟩:=jx h38 he
   rw[if_neg (by rw[he];simp)]
   refine(oS d h hh hl op m bX cntN k len hof (by omega) hg hr).weaken ?_
   rintro v F ⟨kb,rfl,hkb,rfl⟩
   refine⟨_,aq.refl _,?_⟩
   unfold cZ
   rw[if_pos rfl]
   exact⟨h,kb,rfl,hh,hkb,rfl⟩
 · rw[if_pos he]
   refine(vF d h hh hl op m (bX:Int) (cntN:Int) k len he).weaken ?_
   rintro v F rfl
   exact⟨_,aq.refl _,jr he rfl⟩
include h38 in
theorem ud (op:Int) (m:Nat) (at0 n:Int) (k:Hd) (data:List UInt8) (hk:k.Ok data.length) (hdl:data.length≤1000) (ha : -1≤at0∧at0≤9223372036854775807) :
 af Tryz.prog 24 [h.v d.length,.agg ⟨dD op (m:Int) at0 n k data.length⟩] (fun w=>By w h d∧By w k data) (cZ (lL d m at0 data)):=by
 unfold lL
 by_cases he:oq d m=0
 · rw[if_neg (by rw[he];simp)]
   refine(vg d h hh hl h38 op m at0 n k data hk hdl he ha).weaken ?_
   rintro v F ⟨h2,rfl,hh2,rfl⟩
   by_cases he2:(cj d m (gF d m at0) data).2=0
   · rw[if_neg (by rw[he2];simp),he2]
     refine⟨⟨fun w=>By w h2 (cj d m (gF d m at0) data).1∧By w Hd.nil [],[]⟩,aq.imp fun w hw=>⟨hw,By.nil w⟩,?_⟩
     unfold cZ
     rw[if_pos rfl]
     exact⟨h2,Hd.nil,rfl,hh2,Hd.dq,rfl⟩
   · rw[if_pos he2]
     exact⟨_,aq.refl _,dG (r:=.err _) he2 h2 Hd.nil _ 0 _ 0 _⟩
 · rw[if_pos he]
   refine((uo d h hh hl op m at0 n k data.length he).pre fun w hw=>hw.1).weaken ?_
   rintro v F rfl
   exact⟨_,aq.refl _,jr he rfl⟩
theorem sA (op node at0 n:Int) (k:Hd) (p:List UInt8) (hk:k.Ok p.length) (hp:p.length≤200) :
 af Tryz.prog 25 [h.v d.length,.agg ⟨dD op node at0 n k p.length⟩] (fun w=>By w h d∧By w k p) (cZ (jD d p)):=by
 have hus:=vj d h hh hl p hp
 unfold jD
 generalize (dc d p).1=d2 at *
 generalize (dc d p).2=e at *
 refine af.aF ab Tryz.func25 rfl (by decide) (n:=Tryz.f25.ntmps - 2) rfl rfl fun w0 av=>?_
 conv=>whnf
 repeat (refine aa.of ?_;conv=>whnf)
 intro b3
 conv=>whnf
 repeat (refine aa.of ?_;conv=>whnf)
 intro b5
 conv=>whnf
 repeat (refine aa.of ?_;conv=>whnf)
 refine aj.ah (ai.bytes ab (t:=23) (u:=9) rfl rfl rfl rfl rfl rfl (l:=p) (.fact fun w hw=>hw.2) rfl ?_)
 conv=>whnf
 repeat (refine aa.of ?_;conv=>whnf)
 refine ak.pure hus (fun w hw=>hw.1) (fun v D hv=>?_)
 obtain⟨k2,rfl,hk2,rfl⟩:=hv
 conv=>whnf
 repeat (refine aa.of ?_;conv=>whnf)
 exact m_ hk2 fun w hw=>hw.2
theorem uT (op node at0 n:Int) (k:Hd) (p:List UInt8) (hk:k.Ok p.length) (hp:p.length≤200) :
 af Tryz.prog 26 [h.v d.length,.agg ⟨dD op node at0 n k p.length⟩] (fun w=>By w h d∧By w k p) (cZ (lM d p)):=by
 have hus:=iS d h hh hl p hp 2
 unfold lM
 generalize bE d p 2=mr at *
 obtain⟨mn,d2,e⟩:=mr
 dsimp only at hus ⊢
 refine af.aF ab Tryz.func26 rfl (by decide) (n:=Tryz.f26.ntmps - 2) rfl rfl fun w0 av=>?_
 conv=>whnf
 repeat (refine aa.of ?_;conv=>whnf)
 intro b3
 conv=>whnf
 repeat (refine aa.of ?_;conv=>whnf)
 intro b5
 conv=>whnf
 repeat (refine aa.of ?_;conv=>whnf)
 refine aj.ah (ai.bytes ab (t:=23) (u:=9) rfl rfl rfl rfl rfl rfl (l:=p) (.fact fun w hw=>hw.2) rfl ?_)
 conv=>whnf
 repeat (refine aa.of ?_;conv=>whnf)
 refine ak.pure hus (fun w hw=>hw.1) (fun v D hv=>?_)
 obtain⟨k2,rfl,hk2,rfl⟩:=hv
 conv=>whnf
 repeat (refine aa.of ?_;conv=>whnf)
 exact m_ hk2 fun w hw=>hw.2
end
end Go.Proofs.YtfeoedkmndkbjaaGreatDoor
namespace Go.Proofs.YtfeoedkmndkbjaaGreatDoor
open Go Go.Sx
set_option maxRecDepth 100000
set_option maxHeartbeats 4000000
set_option linter.unusedVariables false
set_option linter.unusedSimpArgs false
def kB (r:Rs) (v:Value) (F:Fx):Prop:=
 if r.e=0 then ∃ h2 kb:Hd,v = .tuple #[h2.v r.next.length,.agg ⟨[.int .i64 r.val,.int .i64 r.kind,kb.v r.data.length]⟩,.int .i64 0]∧h2.Ok r.next.length∧kb.Ok r.data.length∧F=⟨fun w=>By w h2 r.next∧By w kb r.data,[]⟩
 else v = .tuple #[.slice none 0 0,uu,.int .i64 (r.e:Int)]
theorem jh (d:List UInt8) (h:Hd) (hh:h.Ok d.length) (hl:d.length≤1000000) (on:Nat) (node at0 n:Int) (k:Hd) (data:List UInt8) (h38:aM d=0) (hF:fC (on:Int) node at0 n data.length) (f:FuncId)
 (hsel:(on=1∧f=22)∨(on=2∧f=23)∨(on=3∧f=24)∨(on=4∧f=25)∨(on=5∧f=26)∨(on=6∧f=27)) (r:Rs)
 (hop:af Tryz.prog f [h.v d.length,.agg ⟨dD (on:Int) node at0 n k data.length⟩] (fun w=>By w h d∧By w k data) (cZ r)) (hrl:r.e=0→r.next.length=12288) :
 af Tryz.prog 10 [h.v d.length,.agg ⟨dD (on:Int) node at0 n k data.length⟩] (fun w=>By w h d∧By w k data) (kB r):=by
 have hfm:=gI (on:Int) node at0 n k data.length
 rw[decide_eq_true hF] at hfm
 have hck:=gg d h hh hl
 rw[h38] at hck
 have hon:on<7:=by omega
 obtain⟨tr,htr⟩ : ∃ tr,tr=true:=⟨_,rfl⟩
 rw[← htr] at hfm
 obtain⟨z1,hz1⟩ : ∃ z:Nat,z=0:=⟨_,rfl⟩
 rw[← hz1] at hck
 obtain⟨next,val,kind,rd,e⟩:=r
 unfold kB
 dsimp only at hrl ⊢
 have hop2:af Tryz.prog f [h.v d.length,.agg ⟨dD (on:Int) node at0 n k data.length⟩] (fun w=>By w h d∧By w k data) (fun v F=>∃ (h2 kb:Hd) (n m:Nat) (a b:Int),v = .tuple #[h2.v n,.agg ⟨[.int .i64 a,.int .i64 b,kb.v m]⟩,.int .i64 (e:Int)]∧
  (e=0→n=next.length∧m=rd.length∧a=val∧b=kind∧h2.Ok next.length∧kb.Ok rd.length∧F=⟨fun w=>By w h2 next∧By w kb rd,[]⟩)):=by
  refine hop.weaken fun v F hv=>⟨F,aq.refl _,?_⟩
  unfold cZ at hv
  dsimp only at hv
  by_cases he:e=0
  · rw[if_pos he] at hv
    obtain⟨h2,kb,rfl,a1,a2,rfl⟩:=hv
    exact⟨h2,kb,_,_,_,_,by rw[he];rfl,fun _=>⟨rfl,rfl,rfl,rfl,a1,a2,rfl⟩⟩
  · rw[if_neg he] at hv
    obtain⟨h2,kb,q1,q2,q3,q4,rfl⟩:=hv
    exact⟨h2,kb,q1,q2,q3,q4,rfl,fun h=>absurd h he⟩
 obtain⟨RO,hRO⟩ : ∃ R:Value→Fx→Prop,R=fun v F=>∃ (h2 kb:Hd) (n m:Nat) (a b:Int),v = .tuple #[h2.v n,.agg ⟨[.int .i64 a,.int .i64 b,kb.v m]⟩,.int .i64 (e:Int)]∧
  (e=0→n=next.length∧m=rd.length∧a=val∧b=kind∧h2.Ok next.length∧kb.Ok rd.length∧F=⟨fun w=>By w h2 next∧By w kb rd,[]⟩):=⟨_,rfl⟩
 have hRO':=hRO
 rw[← hRO] at hop2
 clear hRO hop
 refine af.aF ab Tryz.func10 rfl (by decide) (n:=Tryz.f10.ntmps - 2) rfl rfl fun w0 av=>?_
 conv=>whnf
 repeat (refine aa.of ?_;conv=>whnf)
 intro b3
 conv=>whnf
 repeat (refine aa.of ?_;conv=>whnf)
 intro b5
 conv=>whnf
 repeat (refine aa.of ?_;conv=>whnf)
 refine ak.val hfm (fun w hw=>trivial) (fun v D hv=>?_)
 subst hv
 conv=>whnf
 repeat (refine aa.of ?_;conv=>whnf)
 refine aH.no (by rw[htr];rfl) ?_
 conv=>whnf
 repeat (refine aa.of ?_;conv=>whnf)
 refine ak.val hck (fun w hw=>hw.1) (fun v D hv=>?_)
 subst hv
 conv=>whnf
 repeat (refine aa.of ?_;conv=>whnf)
 refine aH.no (by rw[hz1];simp[ar]) ?_
 conv=>whnf
 repeat (refine aa.of ?_;conv=>whnf)
 intro b8
 conv=>whnf
 repeat (refine aa.of ?_;conv=>whnf)
 refine aI.draw ab mixed rfl rfl ?_
 conv=>whnf
 repeat' (first
  | (refine And.intro ?_ ?_<;>conv=>whnf)
  | (refine ax.same rfl ?_;conv=>whnf)
  | (refine ax.row rfl ?_;conv=>whnf)
  | (refine ax.call rfl ?_;conv=>whnf)
  | (refine bG.of ?_;conv=>whnf)
  | (refine aa.of ?_;conv=>whnf)
  | (rw[bL hon];conv=>whnf)
  | (refine cF (x:=.func (.func f) #[] #[]) (by rcases hsel with⟨rfl,rfl⟩ | ⟨rfl,rfl⟩ | ⟨rfl,rfl⟩ | ⟨rfl,rfl⟩ | ⟨rfl,rfl⟩ | ⟨rfl,rfl⟩<;>rfl) ?_;conv=>whnf)
  | (refine ak.pure hop2 (fun w hw=>hw) (fun v D hv=>?_);rw[hRO'] at hv;obtain⟨h2,kb,q1,q2,q3,q4,rfl,hok⟩:=hv;conv=>whnf)
  | (refine ax.mk ?_ ?_;(focus (first | exact aq.refl _ | exact aq.left _ _ | exact aq.of_le ⟨List.sublist_append_left _ _,fun w h=>h⟩ | exact aq.of_le ⟨List.Sublist.refl _,fun w h=>h.1⟩));conv=>whnf))
 by_cases he:e=0
 rotate_left
 · refine aH.yes (by simp[ar];omega) ?_
   conv=>whnf
   repeat (refine aa.of ?_;conv=>whnf)
   refine⟨_,aq.refl _,?_⟩
   dsimp only
   rw[if_neg he]
   rfl
 obtain⟨rfl,rfl,rfl,rfl,ho1,ho2,rfl⟩:=hok he
 have hnl:=hrl he
 have hcl:=eE next h2 ho1 (by omega) (by omega)
 refine aH.no (by rw[he];simp[ar]) ?_
 conv=>whnf
 repeat (refine aa.of ?_;conv=>whnf)
 refine aI.draw ab mixed rfl rfl ?_
 conv=>whnf
 repeat' (first
  | (refine And.intro ?_ ?_<;>conv=>whnf)
  | (refine ax.same rfl ?_;conv=>whnf)
  | (refine ax.row rfl ?_;conv=>whnf)
  | (refine ax.call rfl ?_;conv=>whnf)
  | (refine bG.of ?_;conv=>whnf)
  | (refine aa.of ?_;conv=>whnf)
  | (refine ak.pure hcl (fun w hw=>hw.2.1) (fun v D hv=>?_);obtain⟨b9,c9,Z9,rfl,hc9,rfl⟩:=hv;conv=>whnf)
  | (refine ax.mk ?_ ?_;(focus (first | exact aq.refl _ | exact aq.left _ _ | exact aq.of_le ⟨List.sublist_append_left _ _,fun w h=>h⟩ | exact aq.of_le ⟨List.Sublist.refl _,fun w h=>h.1⟩));conv=>whnf))
 all_goals
  refine⟨⟨fun w=>By w ⟨some ⟨b9,0,none⟩,c9⟩ next∧By w kb rd,[]⟩,?_,?_⟩
  · refine aq.trans (G:=⟨fun w=>By w kb rd,[(b9,Row.c (next.map ao++Z9))]⟩) (aq.of_le ⟨by simp[Fx.and],fun w hw=>hw.1.2.2⟩) ?_
    exact aq.nE.trans (aq.imp fun w hw=>⟨hw.2,hw.1⟩)
  dsimp only
  rw[if_pos he]
  exact⟨⟨some ⟨b9,0,none⟩,c9⟩,kb,rfl,⟨fun h=>(by cases h),hc9⟩,ho2,rfl⟩
noncomputable def AY (d:List UInt8) (k:Nat):List UInt8:=cD (vk d ((bw (bA d)).take k)) (dp (bA d) ((bw (bA d)).take k))
section
variable {d:List UInt8} (hd:d.length=12288)
include hd
theorem mY (k:Nat):(vk d ((bw (bA d)).take k)).length=12288:=pX hd fun x hx=>(gr (List.mem_of_mem_take hx)).2.1
theorem mM (k:Nat):(dp (bA d) ((bw (bA d)).take k)).length=12:=by rw[jJ,aU hd]
theorem ur (k:Nat):(AY d k).length=12288:=aP (mY hd k) (mM hd k)
theorem uH (k:Nat):bA (AY d k)=dp (bA d) ((bw (bA d)).take k):=zk (mY hd k) (mM hd k)
theorem Cb:AY d 0=d:=wQ hd
theorem BF {k:Nat} (hk:k≤(bw (bA d)).length):cI (bA (AY d k))=(bw (bA d))[k]?:=by
 rw[uH hd,rf,ot _ (aU hd) hk,List.head?_drop]
theorem Bw {k:Nat} (hk:k<(bw (bA d)).length):cG (AY d k) (bw (bA d))[k]=AY d (k+1):=by
 have hx:=gr (List.getElem_mem hk)
 have h1:=mY hd k
 have h2:=mM hd k
 have h3:=uH hd k
 have e:(bw (bA d)).take (k+1)=(bw (bA d)).take k ++ [(bw (bA d))[k]]:=List.take_succ_eq_append_getElem hk
 unfold cG
 rw[h3]
 unfold AY
 rw[e]
 unfold vk dp at *
 rw[List.foldl_append,List.foldl_append]
 simp only[List.foldl_cons,List.foldl_nil]
 generalize (bw (bA d))[k]=x at *
 generalize List.foldl (fun d x=>lay d (128*x) (List.replicate 128 0)) d ((bw (bA d)).take k)=c at *
 generalize List.foldl (fun b i=>cq b i true) (bA d) ((bw (bA d)).take k)=B at *
 have hB:(cq B x true).length=12:=by rw[bz,h2]
 have hz:(List.replicate 128 (0:UInt8)).length=128:=List.length_replicate
 have h4:=aP h1 h2
 have h5:=aP h4 hB
 have h6:(lay c (128*x) (List.replicate 128 0)).length=12288:=by rw[ct (by rw[hz];omega),h1]
 refine bW (by rw[ct (by rw[hz];omega),h5,aP h6 hB]) fun m hm=>?_
 rw[cu (by rw[hz];omega),hz,aX h4 hB,aX h1 h2,aX h6 hB,cu (by rw[hz];omega),hz]
 by_cases h7:128*x≤m∧m<128*x+128
 · rw[if_pos h7,if_pos h7,if_neg (by omega)]
 · rw[if_neg h7,if_neg h7]
   by_cases h8:1664≤m∧m<1676
   · rw[if_pos h8,if_pos h8]
   · rw[if_neg h8,if_neg h8,if_neg h8]
end
theorem zX (b:Nat→Nat) (fr L:List Nat) (j:Nat):kJ b (fr.zip L) j=b j∨kJ b (fr.zip L) j∈L:=by
 by_cases h : ∃ p∈fr.zip L,p.1=j
 · obtain⟨p,hp,he⟩:=pG (b:=b) h
   exact .inr (by rw[he];exact(List.of_mem_zip hp).2)
 · exact .inl (jX fun p hp he=>h ⟨p,hp,he⟩)
theorem rO {d:List UInt8} {n off:Nat} {data:List UInt8} (hg:a7 d (n:Int)=0) (hk:rk d n≠2):cj d n off data =
 if data.length=0 then (d,0) else if 1536<off+data.length then ([],6)
 else if (bw (bA d)).length<(fresh (rb d n) (off/128) ((off+data.length+127)/128 - off/128)).length then ([],13)
 else (cS (mK (AY d (fresh (rb d n) (off/128) ((off+data.length+127)/128 - off/128)).length) (kJ (rb d n) ((fresh (rb d n) (off/128) ((off+data.length+127)/128 - off/128)).zip (bw (bA d)))) off data data.length)
  n (rk d n) (max (rs d n) (off+data.length)) (kJ (rb d n) ((fresh (rb d n) (off/128) ((off+data.length+127)/128 - off/128)).zip (bw (bA d)))),0):=by
 obtain⟨hd,hok,n',hn',hn,hrk⟩:=cd hg
 have hn':n=n':=by omega
 subst hn'
 unfold cj
 rw[if_neg (by rw[hg];simp),if_neg hk]
 by_cases h0:data.length=0
 · rw[if_pos h0,if_pos h0]
 rw[if_neg h0,if_neg h0]
 by_cases h1:1536<off+data.length
 · rw[if_pos h1,if_pos h1]
 rw[if_neg h1,if_neg h1]
 by_cases hc:(bw (bA d)).length<(fresh (rb d n) (off/128) ((off+data.length+127)/128 - off/128)).length
 · rw[if_pos hc,if_pos hc]
 rw[if_neg hc,if_neg hc]
 have hbk : ∀ q,q<data.length→18≤kJ (rb d n) ((fresh (rb d n) (off/128) ((off+data.length+127)/128 - off/128)).zip (bw (bA d))) ((off+q)/128)∧kJ (rb d n) ((fresh (rb d n) (off/128) ((off+data.length+127)/128 - off/128)).zip (bw (bA d))) ((off+q)/128)<96:=by
  intro q hq
  rcases xQ (b:=rb d n) (i:=off/128) (m:=(off+data.length+127)/128 - off/128) (j:=(off+q)/128) (L:=bw (bA d)) (by omega) (by omega) (by omega) with⟨h1,h2⟩ | ⟨h1,h2⟩
  · rw[h2]
    have:=bD (hok.form n hn) ((off+q)/128) (by omega) h1
    omega
  · have:=gr h2
    omega
 have h1:=mY hd (fresh (rb d n) (off/128) ((off+data.length+127)/128 - off/128)).length
 have h2:=ur hd (fresh (rb d n) (off/128) ((off+data.length+127)/128 - off/128)).length
 have hb12:=mM hd (fresh (rb d n) (off/128) ((off+data.length+127)/128 - off/128)).length
 have h3:=uH hd (fresh (rb d n) (off/128) ((off+data.length+127)/128 - off/128)).length
 have h4 : ∀ m,¬ (1664≤m∧m<1676)→aJ (vk d ((bw (bA d)).take (fresh (rb d n) (off/128) ((off+data.length+127)/128 - off/128)).length)) m=aJ (AY d (fresh (rb d n) (off/128) ((off+data.length+127)/128 - off/128)).length) m:=fun m hm=>by
  unfold AY
  rw[aX h1 hb12,if_neg hm]
 generalize kJ (rb d n) ((fresh (rb d n) (off/128) ((off+data.length+127)/128 - off/128)).zip (bw (bA d)))=b' at *
 generalize AY d (fresh (rb d n) (off/128) ((off+data.length+127)/128 - off/128)).length=o at *
 generalize dp (bA d) ((bw (bA d)).take (fresh (rb d n) (off/128) ((off+data.length+127)/128 - off/128)).length)=bits at *
 generalize vk d ((bw (bA d)).take (fresh (rb d n) (off/128) ((off+data.length+127)/128 - off/128)).length)=e0 at *
 obtain⟨p1,p2⟩:=gT (o:=e0) (o':=o) (b:=b') (off:=off) (data:=data) h1 h2 hbk h4 data.length (Nat.le_refl _)
 obtain⟨-,p3⟩:=gT (o:=o) (o':=o) (b:=b') (off:=off) (data:=data) h2 h2 hbk (fun m hm=>rfl) data.length (Nat.le_refl _)
 have l1:=(gh e0 b' off data data.length).trans h1
 have l2:=(gh o b' off data data.length).trans h2
 generalize mK e0 b' off data data.length=x1 at *
 generalize mK o b' off data data.length=x2 at *
 congr 1
 have l3:=bf l1 hn (rk d n) (max (rs d n) (off+data.length)) b'
 refine bW (by rw[aP l3 hb12,bf l2 hn]) fun m hm=>?_
 rw[aX l3 hb12,bO l1 hn,bO l2 hn]
 by_cases hbm:1664≤m∧m<1676
 · rw[if_pos hbm,if_neg (by omega),p3 m (by omega),← h3]
   unfold bA
   rw[a8 (by omega) (by omega)]
   congr 1
   omega
 · rw[if_neg hbm,p1 m hbm]
end Go.Proofs.YtfeoedkmndkbjaaGreatDoor
namespace Go.Proofs.YtfeoedkmndkbjaaGreatDoor
open Go Go.Sx
set_option maxRecDepth 100000
set_option maxHeartbeats 4000000
set_option linter.unusedVariables false
set_option linter.unusedSimpArgs false
theorem AM {d:List UInt8} {n:Nat} (h:(ey d n).2=0):(ey d n).1.length=12288:=by
 unfold ey at h ⊢
 by_cases hg:a7 d n≠0
 · rw[if_pos hg] at h
   exact absurd h hg
 rw[if_neg hg] at h ⊢
 obtain⟨hd,hok,m,hm,hm32,hrk⟩:=cd (show a7 d n=0 by omega)
 have hm:n=m:=by omega
 subst hm
 by_cases h0:n=0
 · rw[if_pos h0] at h
   cases h
 · rw[if_neg h0]
   exact bf (fO hd _ _) hm32 _ _ _
theorem vM {d p:List UInt8} (h:(dc d p).2=0):(dc d p).1.length=12288:=by
 unfold dc at h ⊢
 by_cases h1:aM d≠0
 · rw[if_pos h1] at h;exact absurd h h1
 rw[if_neg h1] at h ⊢
 by_cases h2:(aL p).2≠0
 · rw[if_pos h2] at h;cases h
 rw[if_neg h2] at h ⊢
 by_cases h3:(aL p).1 = []
 · rw[if_pos h3] at h;cases h
 rw[if_neg h3] at h ⊢
 by_cases h4:(aT d (aL p).1 0).2≠0
 · rw[if_pos h4] at h;exact absurd h h4
 rw[if_neg h4] at h ⊢
 by_cases h5:(cT d (aT d (aL p).1 0).1).2=0∧∃ e∈(cT d (aT d (aL p).1 0).1).1,e.1≠[]
 · rw[if_pos h5] at h;cases h
 rw[if_neg h5] at h ⊢
 exact AM h
noncomputable def Dq (d:List UInt8) (on:Nat) (node at0 n:Int) (data:List UInt8):Rs:=
 if on=1 then i_ d data at0.toNat else if on=2 then iX d node.toNat at0.toNat n.toNat else if on=3 then lL d node.toNat at0 data
 else if on=4 then jD d data else if on=5 then lM d data else eW d data
theorem tS {e:Nat} (he:e≠0) {v:Value} {F:Fx} (hv:v = .tuple #[.slice none 0 0,uu,.int .i64 (e:Int)]):kB (.err e) v F:=by
 unfold kB
 rw[if_neg (show ¬ (Rs.err e).e=0 from he)]
 exact hv
theorem wm {d:List UInt8} {on:Nat} {node at0 n:Int} {data:List UInt8} (h38:aM d=0) (he:(Dq d on node at0 n data).e=0):(Dq d on node at0 n data).next.length=12288:=by
 have hd:=(bl (bx h38).1).1
 unfold Dq at he ⊢
 split at he<;>rename_i c1
 · rw[if_pos c1]
   unfold i_ at he ⊢
   split at he<;>rename_i c2
   · rw[if_pos c2]
     split at he<;>rename_i c3
     · exact absurd he c3
     · rw[if_neg c3]
       exact jE _ _ _ (by omega)
   · rw[if_neg c2]
     split at he<;>rename_i c3
     · exact absurd he c3
     · rw[if_neg c3]
       split at he<;>rename_i c4
       · cases he
       · rw[if_neg c4]
         dsimp only
         have hg:=oF h38 (p:=data) (by omega)
         split
         · obtain⟨-,-,m,hm,hm32,-⟩:=cd hg
           exact bf (fO hd _ _) (by omega) _ _ _
         · exact hd
 rw[if_neg c1]
 split at he<;>rename_i c2
 · rw[if_pos c2]
   unfold iX at he ⊢
   split at he<;>rename_i c3
   · exact absurd he c3
   · rw[if_neg c3]
     exact hd
 rw[if_neg c2]
 split at he<;>rename_i c3
 · rw[if_pos c3]
   unfold lL at he ⊢
   split at he<;>rename_i c4
   · exact absurd he c4
   · rw[if_neg c4]
     split at he<;>rename_i c5
     · exact absurd he c5
     · rw[if_neg c5]
       dsimp only
       obtain⟨hm,hg,hr⟩:=jx h38 (show oq d node.toNat=0 by omega)
       have ht:=rO (off:=gF d node.toNat at0) (data:=data) hg (by rw[hr];decide)
       rw[ht] at c5 ⊢
       split at c5<;>rename_i c6
       · rw[if_pos c6]
         exact hd
       rw[if_neg c6]
       split at c5<;>rename_i c7
       · cases c5 (by simp)
       rw[if_neg c7]
       split at c5<;>rename_i c8
       · cases c5 (by simp)
       rw[if_neg c8]
       exact bf (by rw[gh,ur hd]) hm _ _ _
 rw[if_neg c3]
 split at he<;>rename_i c4
 · rw[if_pos c4]
   unfold jD at he ⊢
   split at he<;>rename_i c5
   · exact absurd he c5
   · rw[if_neg c5]
     exact vM (by omega)
 rw[if_neg c4]
 split at he<;>rename_i c5
 · rw[if_pos c5]
   unfold lM at he ⊢
   split at he<;>rename_i c6
   · exact absurd he c6
   · rw[if_neg c6]
     exact jE _ _ _ (by omega)
 rw[if_neg c5]
 unfold eW at he ⊢
 split at he<;>rename_i c6
 · exact absurd he c6
 · rw[if_neg c6]
   exact hd
noncomputable def ya (d:List UInt8) (op node at0 n:Int) (data:List UInt8):Rs:=
 if ¬ fC op node at0 n data.length then .err 1 else if aM d≠0 then .err (aM d) else Dq d op.toNat node at0 n data
theorem s7 (d:List UInt8) (h:Hd) (hh:h.Ok d.length) (hl:d.length≤1000000) (op node at0 n:Int) (k:Hd) (data:List UInt8) (hk:k.Ok data.length) (hat:at0≤9223372036854775807) :
 af Tryz.prog 10 [h.v d.length,.agg ⟨dD op node at0 n k data.length⟩] (fun w=>By w h d∧By w k data) (kB (ya d op node at0 n data)):=by
 by_cases hF:fC op node at0 n data.length
 rotate_left
 · have hfm:=gI op node at0 n k data.length
   rw[decide_eq_false hF] at hfm
   unfold ya
   rw[if_pos hF]
   refine af.aF ab Tryz.func10 rfl (by decide) (n:=Tryz.f10.ntmps - 2) rfl rfl fun w0 av=>?_
   conv=>whnf
   repeat (refine aa.of ?_;conv=>whnf)
   intro b3
   conv=>whnf
   repeat (refine aa.of ?_;conv=>whnf)
   intro b5
   conv=>whnf
   repeat (refine aa.of ?_;conv=>whnf)
   refine ak.val hfm (fun w hw=>trivial) (fun v D hv=>?_)
   subst hv
   conv=>whnf
   repeat (refine aa.of ?_;conv=>whnf)
   exact⟨_,aq.refl _,rfl⟩
 by_cases h38:aM d=0
 rotate_left
 · have hfm:=gI op node at0 n k data.length
   rw[decide_eq_true hF] at hfm
   have hck:=gg d h hh hl
   obtain⟨tr,htr⟩ : ∃ tr,tr=true:=⟨_,rfl⟩
   rw[← htr] at hfm
   have hR : ∀ F,kB (ya d op node at0 n data) (.tuple #[.slice none 0 0,uu,.int .i64 (aM d:Int)]) F:=fun F=>by
    unfold ya
    rw[if_neg (fun h=>h hF),if_pos h38]
    exact tS h38 rfl
   generalize ya d op node at0 n data=R at *
   generalize aM d=ce at *
   refine af.aF ab Tryz.func10 rfl (by decide) (n:=Tryz.f10.ntmps - 2) rfl rfl fun w0 av=>?_
   conv=>whnf
   repeat (refine aa.of ?_;conv=>whnf)
   intro b3
   conv=>whnf
   repeat (refine aa.of ?_;conv=>whnf)
   intro b5
   conv=>whnf
   repeat (refine aa.of ?_;conv=>whnf)
   refine ak.val hfm (fun w hw=>trivial) (fun v D hv=>?_)
   subst hv
   conv=>whnf
   repeat (refine aa.of ?_;conv=>whnf)
   refine aH.no (by rw[htr];rfl) ?_
   conv=>whnf
   repeat (refine aa.of ?_;conv=>whnf)
   refine ak.val hck (fun w hw=>hw.1) (fun v D hv=>?_)
   subst hv
   conv=>whnf
   repeat (refine aa.of ?_;conv=>whnf)
   refine aH.yes (by simp[ar];omega) ?_
   conv=>whnf
   repeat (refine aa.of ?_;conv=>whnf)
   exact⟨_,aq.refl _,hR _⟩
 have hlen:=fun on=>wm (d:=d) (on:=on) (node:=node) (at0:=at0) (n:=n) (data:=data) h38
 unfold ya
 rw[if_neg (fun h=>h hF),if_neg (by rw[h38];simp)]
 have hF':=hF
 unfold fC at hF
 rcases hF with⟨rfl,c1,c2,c3,c4,c5⟩ | ⟨rfl,c1,c2,c3,c4,c5,c6⟩ | ⟨rfl,c1,c2,c3,c4,c5⟩ | ⟨c0,c1,c2,c3,c4⟩
 · refine jh d h hh hl 1 node at0 n k data h38 hF' _ (.inl ⟨rfl,rfl⟩) _ ?_ (hlen _)
   exact wO d h hh hl h38 _ node at0 n k data hk (by omega) at0.toNat (by omega) (by omega)
 · refine jh d h hh hl 2 node at0 n k data h38 hF' _ (.inr (.inl ⟨rfl,rfl⟩)) _ ?_ (hlen _)
   have:=(wk d h hh hl h38 2 node.toNat at0.toNat n.toNat k data.length (by omega) (by omega)).pre (Pre':=fun w=>By w h d∧By w k data) fun w hw=>hw.1
   rw[Int.toNat_of_nonneg c1,Int.toNat_of_nonneg c3,Int.toNat_of_nonneg c4] at this
   exact this
 · refine jh d h hh hl 3 node at0 n k data h38 hF' _ (.inr (.inr (.inl ⟨rfl,rfl⟩))) _ ?_ (hlen _)
   have:=ud d h hh hl h38 3 node.toNat at0 n k data hk (by omega) ⟨c3,hat⟩
   rw[Int.toNat_of_nonneg c1] at this
   exact this
 · rcases c0 with rfl | rfl | rfl
   · refine jh d h hh hl 4 node at0 n k data h38 hF' _ (.inr (.inr (.inr (.inl ⟨rfl,rfl⟩)))) _ ?_ (hlen _)
     exact sA d h hh hl _ node at0 n k data hk (by omega)
   · refine jh d h hh hl 5 node at0 n k data h38 hF' _ (.inr (.inr (.inr (.inr (.inl ⟨rfl,rfl⟩))))) _ ?_ (hlen _)
     exact uT d h hh hl _ node at0 n k data hk (by omega)
   · refine jh d h hh hl 6 node at0 n k data h38 hF' _ (.inr (.inr (.inr (.inr (.inr ⟨rfl,rfl⟩))))) _ ?_ (hlen _)
     exact wL d h hh hl _ node at0 n k data hk (by omega)
theorem sl (d:List UInt8) (h:Hd) (hh:h.Ok d.length) (hl:d.length≤1000000) (n off:Nat) (offI:Int) (hoI:offI=(off:Int)) (hof:off≤9223372036854775807) (data:List UInt8) (kd:Hd) (hkd:kd.Ok data.length) (hdl:data.length≤1000000) (hg:a7 d (n:Int)=0) (hk2:rk d n≠2) :
 af Tryz.prog 36 [h.v d.length,.int .i64 (n:Int),.int .i64 offI,kd.v data.length] (fun w=>By w h d∧By w kd data) (fJ (cj d n off data).1 (cj d n off data).2):=by
 refine mb ?_
 have hgs:=dA d h hh hl n
 have hW:=rO (off:=off) (data:=data) hg hk2
 obtain⟨k,s,b,hL,hE⟩:=cJ d n
 rw[hL] at hgs
 obtain⟨hd,hok,m,hm,hm32,hrk⟩:=cd hg
 have hm:n=m:=by omega
 subst hm
 obtain⟨hk,hs,hb⟩:=hE hg
 rw[Int.toNat_natCast] at hk hs hb
 have hbl : ∀ i,i<12→b i<96:=fun i hi=>by rw[hb];exact eo hok hm32 hi
 have hbm : ∀ i,b i≤1000000:=fun i=>by
  have:=pn d n i
  rw[hb]
  omega
 have hs2:s≤1536:=by rw[hs];exact fT (hok.form n hm32)
 have hk256:k<256:=by rw[hk];exact lX d n
 rw[← hb,← hk,← hs] at hW
 rw[← hk] at hk2
 have hLx : ∀ x∈bw (bA d),x<96:=fun x hx=>(gr hx).2.1
 have t0:=Cb hd
 have tl:=ur hd
 have tf:=fun {k}=>BF hd (k:=k)
 have ts:=fun {k}=>Bw hd (k:=k)
 have hac:=fun fr j=>zX b fr (bw (bA d)) j
 generalize bw (bA d)=L at *
 generalize AY d=tk at *
 generalize cj d n off data=WR at *
 obtain⟨e,he⟩ : ∃ e,e=a7 d (n:Int):=⟨_,rfl⟩
 rw[← he] at hgs
 rw[hg] at he
 clear hL hE hs hb hk hrk hok hg
 refine af.aF ab Tryz.func36 rfl (by decide) (n:=Tryz.f36.ntmps - 4) rfl rfl fun w0 av=>?_
 conv=>whnf
 repeat (refine aa.of ?_;conv=>whnf)
 refine ak.val hgs (fun w hw=>hw.1) (fun v D hv=>?_)
 subst hv
 conv=>whnf
 repeat (refine aa.of ?_;conv=>whnf)
 intro b0
 conv=>whnf
 repeat (refine aa.of ?_;conv=>whnf)
 refine aH.no (by rw[he];simp[ar]) ?_
 conv=>whnf
 repeat (refine aa.of ?_;conv=>whnf)
 refine aH.no (by simp[aD];omega) ?_
 conv=>whnf
 repeat (refine aa.of ?_;conv=>whnf)
 refine aH.no (by rw[hoI];simp[au]) ?_
 conv=>whnf
 repeat (refine aa.of ?_;conv=>whnf)
 refine aj.build ab (t:=23) rfl rfl rfl [] rfl rfl (by simp) (by decide) fun b1=>?_
 conv=>whnf
 repeat (refine aa.of ?_;conv=>whnf)
 refine aj.c_ (F':=⟨fun w=>By w h d∧By w kd data,[]⟩) (aq.of_le ⟨by simp,fun w hw=>hw⟩) ?_
 refine aj.eQ ab (t:=23) (xt:=23) rfl rfl rfl rfl rfl rfl rfl rfl (l:=d) (.fact fun w hw=>hw.1) (by omega) (by omega) fun b2 c2 Z hc2 hZ=>?_
 conv=>whnf
 repeat (refine aa.of ?_;conv=>whnf)
 refine aH.split (fun h0=>?_) (fun h0=>?_)
 · have h0':data.length=0:=by
    simp[aD] at h0
    simp[h0]
   rw[if_pos h0'] at hW
   conv=>whnf
   repeat (refine aa.of ?_;conv=>whnf)
   rw[hW]
   exact⟨⟨fun _=>True,[(b2,Row.c (d.map ao++Z))]⟩,aq.of_le ⟨by simp,fun w hw=>trivial⟩,.inl ⟨b2,c2,Z,rfl,hc2,rfl⟩⟩
 have h0':data.length≠0:=by
  simp[aD] at h0
  simp
  exact h0
 rw[if_neg h0'] at hW
 conv=>whnf
 repeat (refine aa.of ?_;conv=>whnf)
 refine aH.split (fun hlim=>?_) (fun hlim=>?_)
 · have hlim':1536<off+data.length:=by
    by_cases h5:off≤1536
    · rw[hoI,wrap_i64 (by omega)] at hlim
      simp[bP] at hlim
      omega
    · omega
   rw[if_pos hlim'] at hW
   conv=>whnf
   repeat (refine aa.of ?_;conv=>whnf)
   rw[hW]
   exact dw
 have hlim':off+data.length≤1536:=by
  simp[bP] at hlim
  obtain⟨h5,h6⟩:=hlim
  rw[wrap_i64 (by omega)] at h6
  omega
 rw[if_neg (by omega)] at hW
 have hkd':=hkd.cap
 obtain⟨i0,hi0⟩ : ∃ i0,i0=off/128:=⟨_,rfl⟩
 obtain⟨mN,hmN⟩ : ∃ m,m=(off+data.length+127)/128 - off/128:=⟨_,rfl⟩
 rw[← hmN,← hi0] at hW
 have hsum : ∀ c,c≤mN→i0+c≤12:=fun c hc=>by omega
 have e0:IntKind.i64.wrap (Int.tdiv offI (Int.ofNat (127+1)))=((i0+0:Nat):Int):=by
  rw[hoI,Nat.add_zero,hi0]
  exact kI off 128 (by omega)
 have e1 : ∀ c:Nat,c≤mN→IntKind.i64.wrap (((i0+c:Nat):Int)*128)=(((i0+c)*128:Nat):Int):=fun c hc=>by
  have:=hsum c hc
  rw[wrap_i64 (by omega)]
  omega
 have e2:IntKind.i64.wrap (offI+(data.length:Int))=((off+data.length:Nat):Int):=by
  rw[hoI,wrap_i64 (by omega)]
  omega
 have f0:fresh b i0 0 = []:=rfl
 have fS:=fun c=>j4 b i0 c
 have hfn : ∀ c,c≤mN→(fresh b i0 c).length≤(fresh b i0 mN).length:=fun c hc=>by
  have : ∀ q,(fresh b i0 c).length≤(fresh b i0 (c+q)).length:=fun q=>by
   induction q with
   | zero=>exact Nat.le_refl _
   | succ q ih=>
    rw[← Nat.add_assoc,j4,List.length_append]
    omega
  have h5:=this (mN - c)
  rwa [show c+(mN - c)=mN by omega] at h5
 have hna : ∀ c,kJ b ((fresh b i0 c).zip L) (i0+c)=b (i0+c):=fun c=>jX fun p hp=>by
  have:=(jo.1 (List.of_mem_zip hp).1).2.1
  omega
 have hab : ∀ c j,j<12→kJ b ((fresh b i0 c).zip L) j<96:=fun c j hj=>by
  rcases hac (fresh b i0 c) j with h5 | h5
  · rw[h5];exact hbl j hj
  · exact hLx _ h5
 have ham : ∀ c j,kJ b ((fresh b i0 c).zip L) j≤1000000:=fun c j=>by
  rcases hac (fresh b i0 c) j with h5 | h5
  · rw[h5];exact hbm j
  · have:=hLx _ h5
    omega
 clear hac
 generalize fresh b i0=fr at *
 conv=>whnf
 repeat (refine aa.of ?_;conv=>whnf)
 rw[e0]
 refine aI.loop ab (ι:=Nat×Nat×Nat×List Value) ([11,13,14]++List.range' 51 26)
  (fun x=>x.1≤mN∧(fr x.1).length≤L.length∧12288≤x.2.2.1)
  (fun x=>[(13,.v (.slice (some ⟨x.2.1,0,none⟩) 12288 x.2.2.1)),(14,.v (.int .i64 ((i0+x.1:Nat):Int)))]) (fun x=>[bg k s (kJ b ((fr x.1).zip L))]) (fun x=>⟨fun w=>By w kd data,[(x.2.1,Row.c ((tk (fr x.1).length).map ao++x.2.2.2))]⟩)
  (fun x=>mN - x.1) (0,b2,c2,Z) ⟨Nat.zero_le _,by dsimp only;rw[f0];exact Nat.zero_le _,by dsimp only;omega⟩ ?_ (by dsimp only;rw[f0];rfl) (aq.of_le ⟨by dsimp only;rw[f0,List.length_nil,t0];simp,fun w hw=>hw.2⟩) fun x hx=>?_
 · rw[hd]
   conv=>whnf
   repeat (first | exact aw.nil | refine aw.any ?_ | refine aw.cons ?_)
 obtain⟨i,bb,cap,Z'⟩:=x
 obtain⟨hi,hfl,hcap⟩:=hx
 dsimp only at hi hfl hcap ⊢
 have hsi:=hsum i hi
 conv=>whnf
 repeat (refine aa.of ?_;conv=>whnf)
 rw[e1 i hi,e2]
 refine aH.split (fun hlt=>?_) (fun hlt=>?_)
 · have hlt':i<mN:=by
    simp only[au,decide_eq_true_eq] at hlt
    omega
   have hi12:i0+i<12:=by
    have:=hsum (i+1) hlt'
    omega
   have hfSi:=fS i
   have hfni:=hfn (i+1) hlt'
   have hbi:=hna i
   conv=>whnf
   repeat (refine aa.of ?_;conv=>whnf)
   rw[bL hi12]
   conv=>whnf
   repeat (refine aa.of ?_;conv=>whnf)
   refine cF (x:=aE (b (i0+i))) (by dsimp only;rw[Nat.mul_one,Nat.zero_add,← hbi];exact cP hi12) ?_
   conv=>whnf
   repeat (refine aa.of ?_;conv=>whnf)
   refine aH.split (fun hz=>?_) (fun hz=>?_)
   · have hz':b (i0+i)=0:=by
      simp[aD] at hz
      omega
     rw[if_pos hz'] at hfSi
     have hfl2:(fr (i+1)).length=(fr i).length+1:=by rw[hfSi];simp
     conv=>whnf
     repeat (refine aa.of ?_;conv=>whnf)
     refine ak.c_ (F':=⟨fun w=>By w kd data∧aB w (some ⟨bb,0,none⟩) ((tk (fr i).length).map ao),[]⟩) aq.nE ?_
     have hol:=tl (fr i).length
     have hf:=tf hfl
     cases hq:L[(fr i).length]? with
     | none=>
      rw[hq] at hf
      have hLl:L.length≤(fr i).length:=by simpa using hq
      rw[if_pos (by omega)] at hW
      generalize tk (fr i).length=o at *
      obtain⟨e3,he3⟩ : ∃ e:Nat,e=13:=⟨_,rfl⟩
      have htn:=og o ⟨some ⟨bb,0,none⟩,cap⟩ ⟨fun h=>(by cases h),by dsimp only;omega⟩ hol hf e3 he3
      rw[hol] at htn
      refine ak.pure htn (fun w hw=>hw.2) (fun v D hv=>?_)
      obtain⟨k3,rfl,hk3,rfl⟩:=hv
      conv=>whnf
      repeat (refine aa.of ?_;conv=>whnf)
      rw[bL hi12]
      conv=>whnf
      repeat (refine aa.of ?_;conv=>whnf)
      refine eB (by simp[bg];omega) ?_
      conv=>whnf
      repeat (refine aa.of ?_;conv=>whnf)
      refine aH.yes (by subst he3;simp[ar]) ?_
      conv=>whnf
      repeat (refine aa.of ?_;conv=>whnf)
      rw[hW]
      subst he3
      exact dw
     | some x=>
      rw[hq] at hf
      obtain⟨hql,hqe⟩:=List.getElem?_eq_some_iff.1 hq
      have hts:=ts hql
      rw[hqe] at hts
      have hz2:kJ b ((fr (i+1)).zip L)=fun j=>if j=i0+i then x else kJ b ((fr i).zip L) j:=by
       rw[hfSi,vG hql,qj,hqe]
      have hol2:=tl ((fr i).length+1)
      rw[← hfl2] at hol2 hts
      obtain⟨hx1,hx2⟩:=dK hf
      generalize tk (fr i).length=o at *
      obtain⟨e3,he3⟩ : ∃ e:Nat,e=0:=⟨_,rfl⟩
      have hto:=mq o ⟨some ⟨bb,0,none⟩,cap⟩ ⟨fun h=>(by cases h),by dsimp only;omega⟩ hol x hf e3 he3
      rw[hol] at hto
      refine ak.pure hto (fun w hw=>hw.2) (fun v D hv=>?_)
      obtain⟨b3,c3,Z3,rfl,hc3,rfl⟩:=hv
      rw[hts,hol2] at *
      conv=>whnf
      repeat (refine aa.of ?_;conv=>whnf)
      rw[bL hi12]
      conv=>whnf
      repeat (refine aa.of ?_;conv=>whnf)
      refine eB (by simp[bg];omega) ?_
      conv=>whnf
      repeat (refine aa.of ?_;conv=>whnf)
      refine aH.no (by subst he3;simp[ar]) ?_
      conv=>whnf
      repeat (refine aa.of ?_;conv=>whnf)
      refine⟨(i+1,b3,c3,Z3),⟨⟨hlt',by dsimp only;omega,hc3⟩,by dsimp only;omega⟩,?_,?_,?_⟩
      · conv=>whnf
        refine⟨?_,rfl⟩
        repeat (first | exact aw.nil | refine aw.any ?_ | refine aw.cons ?_ | refine aw.eq (by rw[wrap_i64 (by omega)];rfl) ?_)
      · conv=>whnf
        refine⟨⟨rfl,?_⟩,trivial⟩
        dsimp only
        rw[Nat.mul_one,Nat.zero_add,hz2]
        exact ju hi12 x
      · refine aq.of_le ⟨by simp[Fx.and],fun w hw=>hw.1.1⟩
   · have hz':b (i0+i)≠0:=by
      simp[aD] at hz
      omega
     rw[if_neg hz',List.append_nil] at hfSi
     conv=>whnf
     repeat (refine aa.of ?_;conv=>whnf)
     refine⟨(i+1,bb,cap,Z'),⟨⟨hlt',by dsimp only;rw[hfSi];exact hfl,hcap⟩,by dsimp only;omega⟩,?_,?_,?_⟩
     · conv=>whnf
       refine⟨?_,rfl⟩
       repeat (first | exact aw.nil | refine aw.any ?_ | refine aw.cons ?_ | refine aw.eq (by rw[wrap_i64 (by omega)];rfl) ?_)
     · conv=>whnf
       refine⟨⟨rfl,?_⟩,trivial⟩
       dsimp only
       rw[hfSi]
     · dsimp only
       rw[hfSi]
       exact aq.refl _
 · have hie:i=mN:=by
    simp only[au,decide_eq_false_iff_not] at hlt
    omega
   subst hie
   rw[if_neg (by omega)] at hW
   have hb1:=hab i
   have hb2:=ham i
   have hol:=tl (fr i).length
   clear hab ham hna fS tf ts t0 tl
   generalize kJ b ((fr i).zip L)=b' at *
   generalize tk (fr i).length=o at *
   have hwl:=gh o b' off data
   conv=>whnf
   repeat (refine aa.of ?_;conv=>whnf)
   refine aI.loop ab (ι:=Nat) ([15,16]++List.range' 77 25) (fun x=>x≤data.length)
    (fun x=>[(15,.v (.int .i64 (x:Int)))]) (fun x=>[bg k s b']) (fun x=>⟨fun w=>By w kd data,[(bb,Row.c ((mK o b' off data x).map ao++Z'))]⟩)
    (fun x=>data.length - x) 0 (Nat.zero_le _) ?_ rfl (aq.refl _) fun q hq=>?_
   · conv=>whnf
     repeat (first | exact aw.nil | refine aw.any ?_ | refine aw.cons ?_)
   conv=>whnf
   repeat (refine aa.of ?_;conv=>whnf)
   refine aH.split (fun hlt2=>?_) (fun hlt2=>?_)
   · have hlt2':q<data.length:=by
      simp only[au,decide_eq_true_eq] at hlt2
      omega
     have hq12:(off+q)/128<12:=by omega
     have hbq:=hb1 _ hq12
     have e3:IntKind.i64.wrap (offI+(q:Int))=((off+q:Nat):Int):=by
      rw[hoI,wrap_i64 (by omega)]
      omega
     have e4:IntKind.i64.wrap (Int.tdiv ((off+q:Nat):Int) (Int.ofNat 128))=(((off+q)/128:Nat):Int):=kI (off+q) 128 (by omega)
     have e5:Int.tmod ((off+q:Nat):Int) (Int.ofNat 128)=(((off+q)%128:Nat):Int):=dL (off+q) 128
     have hws:mK o b' off data (q+1)=dm (mK o b' off data q) (128*b' ((off+q)/128)+(off+q)%128) (aJ data q):=rfl
     have hwlq:=hwl q
     have hmd:(off+q)%128<128:=Nat.mod_lt _ (by decide)
     generalize mK o b' off data q=wq at *
     generalize hq1:(off+q)/128=q1 at *
     generalize hq2:(off+q)%128=q2 at *
     conv=>whnf
     repeat (refine aa.of ?_;conv=>whnf)
     rw[e3,e4]
     refine aI.draw ab mixed rfl rfl ?_
     conv=>whnf
     repeat' (first
      | (refine And.intro ?_ ?_<;>conv=>whnf)
      | (refine ax.same rfl ?_;conv=>whnf)
      | (refine ax.row rfl ?_;conv=>whnf)
      | (refine ax.call rfl ?_;conv=>whnf)
      | (refine bG.of ?_;conv=>whnf)
      | (refine aa.of ?_;conv=>whnf)
      | (rw[bL hq12];conv=>whnf)
      | (refine cF (x:=aE (b' q1)) (by dsimp only;rw[Nat.mul_one,Nat.zero_add];exact cP hq12) ?_;conv=>whnf)
      | (refine ak.val (ea ⟨some ⟨bb,0,none⟩,cap⟩ 12288 (b' q1) ⟨fun h=>(by cases h),by dsimp only;omega⟩ (by omega) (by omega)) (fun w hw=>trivial) (fun v D hv=>?_);rw[dO (by omega)] at hv;subst hv;conv=>whnf)
      | (refine ai.cL ab (t:=23) rfl rfl rfl rfl q rfl hlt2' hkd fun ad had=>?_;conv=>whnf)
      | (refine ai.cy ab (t:=5) rfl rfl had (.fact fun w h=>h) rfl hlt2' ?_;conv=>whnf)
      | (refine ai.f_ ab (t:=23) rfl rfl rfl rfl q2 (by rw[e3];exact e5) hmd ?_;conv=>whnf)
      | (refine a_.cC ab (t:=5) rfl rfl (r1:=[]) (r2:=[]) (l:=wq) (Z:=Z') (aJ data q) rfl rfl (bJ _ _) (by omega) ?_;conv=>whnf)
      | (refine ax.mk ?_ ?_;(focus (first | exact aq.refl _ | exact aq.left _ _ | exact aq.of_le ⟨List.sublist_append_left _ _,fun w h=>h⟩ | exact aq.of_le ⟨List.Sublist.refl _,fun w h=>h.1⟩));conv=>whnf))
     all_goals
      refine⟨q+1,⟨hlt2',by dsimp only;omega⟩,?_,?_,?_⟩
      · conv=>whnf
        refine⟨?_,rfl⟩
        repeat (first | exact aw.nil | refine aw.any ?_ | refine aw.cons ?_ | refine aw.eq (by rw[wrap_i64 (by omega)];rfl) ?_)
      · conv=>whnf
        exact⟨⟨rfl,rfl⟩,trivial⟩
      · refine aq.of_le ⟨by simp only[hws];exact List.Sublist.refl _,fun w hw=>hw⟩
   · have hqe:q=data.length:=by
      simp only[au,decide_eq_false_iff_not] at hlt2
      omega
     subst hqe
     have hwq:=hwl data.length
     have hpt:=fB (mK o b' off data data.length) ⟨some ⟨bb,0,none⟩,cap⟩ n k (max s (off+data.length)) b' ⟨fun h=>(by cases h),by dsimp only;omega⟩ (by omega) hm32 (by omega) (by omega) hb2
     have hpl:=bf (hwq.trans hol) hm32 k (max s (off+data.length)) b'
     rw[hW]
     generalize cS (mK o b' off data data.length) n k (max s (off+data.length)) b'=dd at *
     rw[hwq,hol] at hpt
     generalize mK o b' off data data.length=wq at *
     conv=>whnf
     repeat (refine aa.of ?_;conv=>whnf)
     rw[e2]
     refine aj.ah (ai.max (a:=s) (b:=off+data.length) ?_)
     conv=>whnf
     repeat (refine aa.of ?_;conv=>whnf)
     refine ak.c_ (F':=⟨fun w=>By w kd data∧aB w (some ⟨bb,0,none⟩) (wq.map ao),[]⟩) aq.nE ?_
     refine ak.pure hpt (fun w hw=>hw.2) (fun v D hv=>?_)
     obtain⟨b3,c3,Z3,rfl,hc3,rfl⟩:=hv
     conv=>whnf
     repeat (refine aa.of ?_;conv=>whnf)
     exact⟨⟨fun _=>True,[(b3,Row.c (dd.map ao++Z3))]⟩,aq.of_le ⟨by simp[Fx.and],fun w hw=>trivial⟩,.inl ⟨b3,c3,Z3,rfl,hc3,rfl⟩⟩
theorem sj {d:List UInt8} {n:Nat} (hg:a7 d (n:Int)=0):(ay d n).length=rs d n∧rs d n≤1536:=by
 obtain⟨hd,hok,m,hm,hm32,hrk⟩:=cd hg
 have hm:n=m:=by omega
 subst hm
 have h1:=fT (hok.form n hm32)
 have h2:=fD hd (b:=rb d n) (i:=12) fun j hj=>by
  by_cases h:rb d n j=0
  · omega
  · exact(bD (hok.form n hm32) j hj h).2.1
 unfold ay
 rw[if_neg (by rw[hg];simp),List.length_take]
 exact⟨by omega,h1⟩
theorem wK (d:List UInt8) (h:Hd) (hh:h.Ok d.length) (hl:d.length≤1000000) (n bX cntN:Nat) (hg:a7 d (n:Int)=0) (off cnt:Int) (ho:off=(bX:Int)) (hc:cnt=(cntN:Int)) (hof:bX≤9223372036854775807) (hcn:cntN≤1000000) :
 af Tryz.prog 59 [h.v d.length,.int .i64 (n:Int),.int .i64 off,.int .i64 cnt] (fun w=>By w h d) (fJ (((ay d n).drop bX).take cntN) 0):=by
 have hgs:=dA d h hh hl n
 obtain⟨hsz,hs36⟩:=sj hg
 obtain⟨k,s,b,hL,hE⟩:=cJ d n
 rw[hL] at hgs
 obtain⟨hd,hok,m,hm,hm32,hrk⟩:=cd hg
 have hm:n=m:=by omega
 subst hm
 obtain⟨hk,hs,hb⟩:=hE hg
 rw[Int.toNat_natCast] at hk hs hb
 have hbl : ∀ i,i<12→b i<96:=by
  intro i hi
  by_cases hbi:b i=0
  · omega
  · rw[hb] at hbi ⊢
    exact(bD (hok.form n hm32) i hi hbi).2.1
 have hcs:=nh d h hh hd k s b (by omega) hbl
 have hR:ay d n=(dC d b 12).take s:=by
  unfold ay
  rw[if_neg (by rw[hg];simp),hb,hs]
 rw[← hR] at hcs
 rw[← hs] at hsz hs36
 obtain⟨e,he⟩ : ∃ e,e=a7 d (n:Int):=⟨_,rfl⟩
 rw[← he] at hgs
 rw[hg] at he
 clear hL hE hs hb hk hrk hok hR hg hbl
 generalize ay d n=c at *
 subst hsz
 have g1:mL off 0=false:=by
  rw[ho]
  simp[au]
 have g2:mL cnt 0=false:=by
  rw[hc]
  simp[au]
 refine af.aF ab Tryz.func59 rfl (by decide) (n:=Tryz.f59.ntmps - 4) rfl rfl fun w0 av=>?_
 conv=>whnf
 repeat (refine aa.of ?_;conv=>whnf)
 refine ak.val hgs (fun w hw=>hw) (fun v D hv=>?_)
 subst hv
 conv=>whnf
 repeat (refine aa.of ?_;conv=>whnf)
 intro b0
 conv=>whnf
 repeat (refine aa.of ?_;conv=>whnf)
 refine aH.no (by rw[he];simp[ar]) ?_
 conv=>whnf
 repeat (refine aa.of ?_;conv=>whnf)
 rw[g1]
 conv=>whnf
 repeat (refine aa.of ?_;conv=>whnf)
 rw[g2]
 conv=>whnf
 repeat (refine aa.of ?_;conv=>whnf)
 refine aH.split (fun hq=>?_) (fun hq=>?_)
 · have:c.length≤bX:=by
    simp[bI] at hq
    omega
   rw[List.drop_eq_nil_of_le this,List.take_nil]
   obtain⟨z,hz⟩ : ∃ z:Nat,z=0:=⟨_,rfl⟩
   conv=>whnf
   repeat (refine aa.of ?_;conv=>whnf)
   exact bN
 have hlt:bX<c.length:=by
  simp[bI] at hq
  omega
 conv=>whnf
 repeat (refine aa.of ?_;conv=>whnf)
 refine ak.pure hcs (fun w hw=>hw) (fun v D hv=>?_)
 obtain⟨kc,rfl,hkc,rfl⟩:=hv
 have hcap:=hkc.cap
 conv=>whnf
 repeat (refine aa.of ?_;conv=>whnf)
 refine aj.ah (ai.gD ab (t:=23) rfl rfl rfl rfl bX ho (by omega) (by omega) ?_)
 conv=>whnf
 repeat (refine aa.of ?_;conv=>whnf)
 refine aj.build ab (t:=23) rfl rfl rfl [] rfl rfl (by simp) (by decide) fun b1=>?_
 conv=>whnf
 repeat (refine aa.of ?_;conv=>whnf)
 have hmin:(if ((c.length - bX:Nat):Int)<cnt then ((c.length - bX:Nat):Int) else cnt)=((min cntN (c.length - bX):Nat):Int):=by
  rw[hc]
  split<;>omega
 rw[hmin]
 obtain⟨mm,hmm⟩ : ∃ m,m=min cntN (c.length - bX):=⟨_,rfl⟩
 rw[← hmm]
 refine aj.ah (ai.gA ab (t:=23) rfl rfl rfl mm rfl (by unfold Hd.sub;dsimp only;omega) ?_)
 conv=>whnf
 repeat (refine aa.of ?_;conv=>whnf)
 have hcut:cut c bX mm=(c.drop bX).take cntN:=by
  rw[hmm,← wB c bX cntN,Nat.min_eq_left (by omega:bX≤c.length)]
 have hcl:(cut c bX mm).length=mm:=aZ (by omega)
 rw[← hcut]
 have hby : ∀ w,By w kc c→By w (Hd.sub kc bX) (cut c bX mm):=fun w hw=>By.sub hw (by omega)
 have hml:mm≤1000000:=by omega
 generalize cut c bX mm=x at *
 subst hcl
 refine aj.c_ (F':=⟨fun w=>By w (Hd.sub kc bX) x,[]⟩) (aq.of_le ⟨by simp[Fx.and],fun w hw=>?_⟩) ?_
 · exact hby w hw.2
 by_cases hx0:x.length=0
 · have hxn:x = []:=List.eq_nil_of_length_eq_zero hx0
   refine aj.pW ab (t:=23) (xt:=23) rfl rfl rfl rfl rfl (Nat.le_refl _) hx0 (.fact fun w hw=>by have h5:=hw;rw[hxn] at h5;exact h5) ?_
   conv=>whnf
   repeat (refine aa.of ?_;conv=>whnf)
   rw[hxn]
   exact⟨⟨fun w=>By w ⟨some ⟨b1,0,none⟩,0⟩ [],[]⟩,aq.bare fun w _=>aB.zw _,⟨some ⟨b1,0,none⟩,0⟩,rfl,⟨fun h=>(by cases h),Nat.le_refl _⟩,rfl⟩
 refine aj.eQ ab (t:=23) (xt:=23) rfl rfl rfl rfl rfl rfl rfl rfl (l:=x) (.fact fun w hw=>hw) (by omega) (by omega) fun b2 c2 Z hc2 hZ=>?_
 conv=>whnf
 repeat (refine aa.of ?_;conv=>whnf)
 exact⟨_,aq.kr (r1:=[]) (r2:=[]),⟨some ⟨b2,0,none⟩,c2⟩,rfl,⟨fun h=>(by cases h),hc2⟩,rfl⟩
end Go.Proofs.YtfeoedkmndkbjaaGreatDoor
