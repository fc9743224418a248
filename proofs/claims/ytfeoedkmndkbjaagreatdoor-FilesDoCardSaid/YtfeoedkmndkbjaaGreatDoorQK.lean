/- Parts of the proof: NbN, NbO, NbP, NbQ, NbR, NbS, NvC, NvD, NvE, NvF, NvG, NvH, NvI, NvJ, NvK, NvL, NvM, NvN, NvO, NvP. -/
import Derived.Test.YtfeoedkmndkbjaaGreatDoorQI
import Derived.Test.YtfeoedkmndkbjaaGreatDoorQJ
import Derived.Test.YtfeoedkmndkbjaaGreatDoorQG
namespace Go.Proofs.YtfeoedkmndkbjaaGreatDoor
open Go Go.Sx
set_option maxRecDepth 100000
set_option maxHeartbeats 4000000
set_option linter.unusedVariables false
set_option linter.unusedSimpArgs false
def db (l:List En) (s:List UInt8):Option Nat:=l.findIdx? fun e=>e.1 == s
def ib:Option Nat→Int
 | none=>-1
 | some i=>i
theorem iQ (l:List En) (h:Hd) (hh:h.Ok l.length) (hl:l.length≤1000000) (s:List UInt8):af Tryz.prog 79 [h.v l.length,aC s] (fun w=>aB w h.a (bV l)) (fun v F=>v = .int .i64 (ib (db l s))):=by
 refine af.aF ab Tryz.func79 rfl (by decide) (n:=Tryz.f79.ntmps - 2) rfl rfl fun w0 av=>?_
 conv=>whnf
 refine aI.loop ab (ι:=Nat) ([5]++List.range' 6 14) (fun x=>x≤l.length∧∀ j (hj:j<l.length),j<x→l[j].1≠s)
  (fun x=>[(5,.v (.int .i64 (x:Int)))]) (fun _=>[]) (fun _=>⟨fun w=>aB w h.a (bV l),[]⟩)
  (fun x=>l.length - x) 0 ⟨Nat.zero_le _,fun j hj h=>by omega⟩ ?_ rfl (aq.refl _) fun i hi=>?_
 · conv=>whnf
   repeat (first | exact aw.nil | refine aw.any ?_ | refine aw.cons ?_)
 obtain⟨hi,hall⟩:=hi
 conv=>whnf
 refine aH.split (fun hlt=>?_) (fun hlt=>?_)
 · have hlt':i<l.length:=by
    simp only[au,decide_eq_true_eq] at hlt
    omega
   conv=>whnf
   refine aj.ah (ai.index ab (t:=127) rfl rfl rfl (by omega) (by omega) hh.nil fun ad had=>?_)
   conv=>whnf
   refine aj.ah (ai.bS ab (t:=9) rfl rfl (ad:=ad) (k:=2*i) (L:=bV l) (v:=aC l[i].1) (.fact fun w hw=>had ▸ hw) (fun hs=>by rw[Addr.dE hs];congr 1;simp;try omega) (dz hlt').1 ?_)
   conv=>whnf
   refine aj.ah (ai.fL (l:=l[i].1) (m:=s) ?_)
   conv=>whnf
   refine aH.split (fun hq=>?_) (fun hq=>?_)
   · conv=>whnf
     refine⟨_,aq.refl _,?_⟩
     have:db l s=some i:=by
      unfold db
      rw[List.findIdx?_eq_some_iff_getElem]
      exact⟨hlt',hq,fun j hj=>by simpa using hall j (by omega) hj⟩
     rw[this]
     rfl
   · conv=>whnf
     refine⟨i+1,⟨⟨hlt',fun j hj h=>?_⟩,by dsimp only;omega⟩,?_,?_,aq.refl _⟩
     · rcases Nat.lt_or_eq_of_le (Nat.lt_succ_iff.1 h) with h5 | h5
       · exact hall j hj h5
       · subst h5
         simpa using hq
     · conv=>whnf
       refine⟨?_,rfl⟩
       repeat (first | exact aw.nil | refine aw.any ?_ | refine aw.cons ?_ | refine aw.eq (by rw[wrap_i64 (by omega)];rfl) ?_)
     · conv=>whnf
       exact trivial
 · have hie:i=l.length:=by
    simp only[au,decide_eq_false_iff_not] at hlt
    omega
   subst hie
   conv=>whnf
   refine⟨_,aq.refl _,?_⟩
   have:db l s=none:=by
    unfold db
    rw[List.findIdx?_eq_none_iff]
    intro x hx
    obtain⟨j,hj,rfl⟩:=List.getElem_of_mem hx
    simpa using hall j hj hj
   rw[this]
   rfl
def iF (e:En):List UInt8:=dm (lay (List.replicate 16 0) 0 e.1) 14 (e.2%256)
theorem jZ {e:En} (h:e.1.length≤14):(iF e).length=16:=by
 unfold iF
 rw[dn,ct (by simp;omega)]
 simp
def il (l:List En):List UInt8:=l.flatMap iF
theorem kL : ∀ {l:List En},(∀ e∈l,e.1.length≤14)→(il l).length=16*l.length
 | [],_=>rfl
 | e::l,h=>by
  have e1:il (e::l)=iF e++il l:=rfl
  rw[e1,List.length_append,jZ (h e (List.mem_cons_self ..)),kL fun x hx=>h x (List.mem_cons_of_mem _ hx),List.length_cons]
  omega
theorem zP {l:List En} {i:Nat} (hi:i<l.length):il (l.take (i+1))=il (l.take i)++iF l[i]:=by
 rw[List.take_succ_eq_append_getElem hi]
 unfold il
 rw[List.flatMap_append]
 show _++(iF l[i] ++ [])=_
 rw[List.append_nil]
theorem o_ (l:List En) (h:Hd) (hh:h.Ok l.length) (hl:l.length≤1000) (hn : ∀ e∈l,e.1.length≤14):af Tryz.prog 81 [h.v l.length] (fun w=>aB w h.a (bV l)) (lq (il l)):=by
 have hel : ∀ i,i≤l.length→(il (l.take i)).length=16*i:=fun i hi=>by
  rw[kL fun e he=>hn e (List.mem_of_mem_take he),List.length_take,Nat.min_eq_left hi]
 refine af.aF ab Tryz.func81 rfl (by decide) (n:=Tryz.f81.ntmps - 1) rfl rfl fun w0 av=>?_
 conv=>whnf
 refine aI.loop ab (ι:=Nat×Option Addr×Nat×List Value) ([3,4,5]++List.range' 6 25) (fun x=>x.1≤l.length∧Own 1 (16*x.1) x.2.1 x.2.2.1 x.2.2.2 ((il (l.take x.1)).map ao))
  (fun x=>[(3,.v (.slice x.2.1 (16*x.1) x.2.2.1)),(4,.v (.int .i64 (x.1:Int)))]) (fun _=>[]) (fun x=>⟨fun w=>aB w h.a (bV l),aR x.2.1 x.2.2.2⟩)
  (fun x=>l.length - x.1) (0,none,0,[]) ⟨Nat.zero_le _,Own.nil 1⟩ ?_ rfl (aq.of_le ⟨by simp[aR],fun w hw=>hw⟩) fun x hx=>?_
 · conv=>whnf
   repeat (first | exact aw.nil | refine aw.any ?_ | refine aw.cons ?_)
 obtain⟨i,a,cap,C⟩:=x
 obtain⟨hi,hO⟩:=hx
 dsimp only at hi hO ⊢
 conv=>whnf
 refine aH.split (fun hlt=>?_) (fun hlt=>?_)
 · have hlt':i<l.length:=by
    simp only[au,decide_eq_true_eq] at hlt
    omega
   have hnl:=hn _ (List.getElem_mem hlt')
   conv=>whnf
   refine aj.ek ab (t:=23) rfl rfl rfl rfl rfl rfl 16 rfl rfl (by decide) (by decide) fun b0=>?_
   conv=>whnf
   refine aj.ah (ai.index ab (t:=127) rfl rfl rfl (by omega) (by omega) hh.nil fun ad had=>?_)
   conv=>whnf
   refine aj.ah (ai.bS ab (t:=9) rfl rfl (ad:=ad) (k:=2*i) (L:=bV l) (v:=aC l[i].1) (.fact fun w hw=>had ▸ hw) (fun hs=>by rw[Addr.dE hs];congr 1;simp;try omega) (dz hlt').1 ?_)
   conv=>whnf
   refine aj.c_ (F':=⟨fun w=>aB w h.a (bV l),aR a C ++ [(b0,Row.c ((List.replicate 16 (0:UInt8)).map ao ++ []))] ++ []⟩) (aq.of_le ⟨by simp,fun w hw=>hw⟩) ?_
   refine aj.lN ab (t:=23) rfl rfl rfl rfl (r1:=aR a C) (r2:=[]) (b:=b0) (k:=0) (l:=List.replicate 16 0) (m:=l[i].1) (Z:=[]) rfl (by omega) (by simp;omega) ?_
   have hll:(lay (List.replicate 16 (0:UInt8)) 0 l[i].1).length=16:=by rw[ct (by simp;omega)];simp
   have hen:iF l[i]=dm (lay (List.replicate 16 0) 0 l[i].1) 14 (l[i].2%256):=rfl
   have heb:=jZ hnl
   generalize lay (List.replicate 16 (0:UInt8)) 0 l[i].1=lb at *
   conv=>whnf
   refine aj.ah (ai.index ab (t:=127) rfl rfl rfl (by omega) (by omega) hh.nil fun ad had=>?_)
   conv=>whnf
   refine aj.ah (ai.bS ab (t:=3) rfl rfl (ad:=ad) (k:=2*i+1) (L:=bV l) (v:=aE l[i].2) (.fact fun w hw=>had ▸ hw) (fun hs=>by rw[Addr.dE hs];congr 1;simp;try omega) (dz hlt').2 ?_)
   conv=>whnf
   refine aj.ah (ai.jf ab (t:=23) rfl rfl rfl rfl 14 rfl (by decide) ?_)
   conv=>whnf
   refine a_.cC ab (t:=5) rfl rfl (r1:=aR a C) (r2:=[]) (l:=lb) (Z:=[]) (l[i].2%256) rfl (wrap_u8 _) (Nat.mod_lt _ (by decide)) (by omega) ?_
   rw[← hen]
   conv=>whnf
   refine aj.c_ (F':=⟨fun w=>aB w h.a (bV l),[]++aR a C ++ [(b0,Row.c ((iF l[i]).map ao ++ []))]⟩) (aq.of_le ⟨by simp,fun w hw=>hw⟩) ?_
   refine aj.append ab (t:=23) (xt:=23) rfl rfl rfl rfl rfl rfl (r1:=[]) (r2:=[(b0,Row.c ((iF l[i]).map ao ++ []))]) (M:=(iF l[i]).map ao) hO (bp.bytes (Z:=[]) (by simp)) (by simp[heb]) (fun v hv=>gm v hv) (by omega) (by simp;omega) fun a' c' C' hO'=>?_
   conv=>whnf
   refine⟨(i+1,a',c',C'),⟨⟨hlt',?_⟩,by dsimp only;omega⟩,?_,?_,?_⟩
   · dsimp only
     rw[zP hlt',List.map_append]
     exact hO'
   · conv=>whnf
     refine⟨?_,rfl⟩
     repeat (first | exact aw.nil | refine aw.any ?_ | refine aw.cons ?_ | refine aw.eq (by rw[wrap_i64 (by omega)];rfl) ?_)
   · conv=>whnf
     exact trivial
   · refine aq.of_le ⟨by simp,fun w hw=>hw⟩
 · have hie:i=l.length:=by
    simp only[au,decide_eq_false_iff_not] at hlt
    omega
   subst hie
   rw[List.take_length] at hO
   have hee:=hel l.length (Nat.le_refl _)
   rw[List.take_length] at hee
   conv=>whnf
   refine⟨⟨fun w=>aB w a ((il l).map ao),[]⟩,(Own.gives hO).trans (aq.imp fun w hw=>hw.2),⟨a,cap⟩,?_,?_,rfl⟩
   · rw[hee]
   · rw[hee]
     exact hO.hd
def Eh (l:List En) (e:Int) (v:Value) (F:Fx):Prop:=∃ h:Hd,v = .tuple #[h.v l.length,.int .i64 e]∧h.Ok l.length∧F=⟨fun w=>aB w h.a (bV l),[]⟩
def A4 (l:List En) (e:Int) (v:Value) (F:Fx):Prop:=∃ a cap C,v = .tuple #[.slice a l.length cap,.int .i64 e]∧Own 2 l.length a cap C (bV l)∧F=⟨fun _=>True,aR a C⟩
theorem qW {D:World→Prop} {rs:List (Nat×Row)} {e:Int} : ∃ F',aq ⟨D,rs⟩ F'∧A4 [] e (.tuple #[.slice none 0 0,.int .i64 e]) F':=
 ⟨⟨fun _=>True,[]⟩,aq.bare fun w _=>trivial,none,0,[],rfl,Own.nil 2,rfl⟩
theorem jN {d:List UInt8} {n:Nat} (hg:a7 d n=0) (hk:rk d n=2):(ay d n).length=128:=by
 obtain⟨hd,hok,m,hm,hm32,hrk⟩:=cd hg
 have hm:n=m:=by omega
 subst hm
 have hf:=hok.form n hm32
 unfold cH at hf
 rw[Bool.and_eq_true] at hf
 have hs:rs d n=128:=by
  have h2:=hf.2
  split at h2
  · rename_i hz
    have:=(cW.1 hz).1
    omega
  · rw[decide_eq_true_eq] at h2
    have:=h2.2.2.2.2.2
    omega
 unfold ay
 rw[hg,if_neg (by simp),List.length_take,fD hd fun j hj=>eo hok hm32 hj,hs]
 rfl
noncomputable def cT (d:List UInt8) (n:Int):List En×Nat:=if a7 d n≠0 then ([],a7 d n) else if rk d n.toNat≠2 then ([],14) else (eT (ay d n.toNat),0)
theorem n9 (d:List UInt8) (h:Hd) (hh:h.Ok d.length) (hl:d.length≤1000000) (n:Int) :
 af Tryz.prog 78 [h.v d.length,.int .i64 n] (fun w=>By w h d) (A4 (cT d n).1 (cT d n).2):=by
 refine af.aF ab Tryz.func78 rfl (by decide) (n:=Tryz.f78.ntmps - 2) rfl rfl fun w0 av=>?_
 conv=>whnf
 obtain⟨k,s,b,hL,hE⟩:=cJ d n
 refine ak.val (dA d h hh hl n) (fun w hw=>hw) (fun v D hv=>?_)
 rw[hL] at hv
 generalize hg:a7 d n=e at hv
 subst hv
 conv=>whnf
 intro b0
 conv=>whnf
 refine aH.split (fun he=>?_) (fun he=>?_)
 · have he':e≠0:=by
    simp[ar] at he
    omega
   have:cT d n=([],e):=by
    unfold cT
    rw[hg,if_pos he']
   rw[this]
   conv=>whnf
   exact qW
 have he':e=0:=by
  simp[ar] at he
  omega
 subst he'
 obtain⟨hd,hok,m,hm,hm32,hrk⟩:=cd hg
 subst hm
 obtain⟨hk,hs,hb⟩:=hE hg
 rw[Int.toNat_natCast] at hk hs hb
 conv=>whnf
 refine aH.split (fun h2=>?_) (fun h2=>?_)
 · have h2':k≠2:=by
    simp[ar] at h2
    omega
   have:cT d m=([],14):=by
    unfold cT
    rw[hg,if_neg (by simp),Int.toNat_natCast,if_pos (by omega)]
   rw[this]
   conv=>whnf
   exact qW
 have h2':rk d m=2:=by
  simp[ar] at h2
  omega
 have hR:cT d m=(eT (ay d m),0):=by
  unfold cT
  rw[hg,if_neg (by simp),Int.toNat_natCast,if_neg (by omega)]
 rw[hR]
 have hcl:=jN hg h2'
 conv=>whnf
 refine ak.pure (jU d h hh hl m) (fun w hw=>hw) (fun v D hv=>?_)
 obtain⟨k3,rfl,hk3,rfl⟩:=hv
 have hes:=l8 (ay d m) k3 hk3 hcl
 generalize ay d m=c at *
 conv=>whnf
 refine ak.pure hes (fun w hw=>hw.2) (fun v D hv=>?_)
 obtain⟨a,cap,C,rfl,hO,rfl⟩:=hv
 conv=>whnf
 exact⟨⟨fun _=>True,aR a C⟩,aq.of_le ⟨by simp[Fx.and],fun w hw=>trivial⟩,a,cap,C,rfl,hO,rfl⟩
theorem qK (d:List UInt8) (h:Hd) (hh:h.Ok d.length) (hl:d.length≤1000000) (n:Int) :
 af Tryz.prog 78 [h.v d.length,.int .i64 n] (fun w=>By w h d) (Eh (cT d n).1 (cT d n).2):=
 (n9 d h hh hl n).weaken fun v F ⟨a,cap,C,hv,hO,hF⟩=>by
  subst hv hF
  exact⟨⟨fun w=>aB w a (bV (cT d n).1),[]⟩,(Own.gives hO).trans (aq.imp fun w h=>h.2),⟨a,cap⟩,rfl,⟨fun ha=>hO.e6 ha,hO.fit⟩,rfl⟩
noncomputable def aT (d:List UInt8):List (List UInt8)→Nat→Nat×Nat
 | [],n=>(n,0)
 | s::r,n=>if (cT d n).2≠0 then (0,(cT d n).2) else match db (cT d n).1 s with
  | none=>(0,8)
  | some k=>aT d r (((cT d n).1[k]?.map (·.2)).getD 0)
theorem fH {l:List En} {s:List UInt8} {k:Nat} (h:db l s=some k):k<l.length:=by
 unfold db at h
 rw[List.findIdx?_eq_some_iff_getElem] at h
 exact h.1
def fc (n e:Nat) (v:Value) (F:Fx):Prop:=v = .tuple #[.int .i64 (n:Int),.int .i64 (e:Int)]
theorem lf (c:List UInt8):(eT c).length≤8:=by
 unfold eT
 split
 · simp[eA]
 · simp
theorem kf (d:List UInt8) (n:Int):(cT d n).1.length≤8:=by
 unfold cT
 split
 · simp
 · split
   · simp
   · exact lf _
theorem iU (d:List UInt8) (h:Hd) (hh:h.Ok d.length) (hl:d.length≤1000000) (k:Hd) (l:List (List UInt8)) (hk:k.Ok l.length) (hll:l.length≤1000000) :
 af Tryz.prog 77 [h.v d.length,k.v l.length] (fun w=>By w h d∧b_ w k l) (fc (aT d l 0).1 (aT d l 0).2):=by
 obtain⟨F0,hF0⟩ : ∃ x,x=aT d l 0:=⟨_,rfl⟩
 rw[← hF0]
 refine af.aF ab Tryz.func77 rfl (by decide) (n:=Tryz.f77.ntmps - 2) rfl rfl fun w0 av=>?_
 conv=>whnf
 refine aI.loop ab (ι:=Nat×Nat) ([6,7,8,9,10]++List.range' 11 28) (fun x=>x.1≤l.length∧F0=aT d (l.drop x.1) x.2)
  (fun x=>[(6,.v (.int .i64 (x.2:Int))),(7,.v (.int .i64 (x.1:Int)))]) (fun _=>[]) (fun x=>⟨fun w=>By w h d∧b_ w k l,[]⟩)
  (fun x=>l.length - x.1) (0,0) ⟨Nat.zero_le _,hF0⟩ ?_ rfl (aq.refl _) fun x hx=>?_
 · conv=>whnf
   repeat (first | exact aw.nil | refine aw.any ?_ | refine aw.cons ?_)
 obtain⟨i,n⟩:=x
 obtain⟨hi,hfo⟩:=hx
 dsimp only at hi hfo ⊢
 conv=>whnf
 refine aH.split (fun hlt=>?_) (fun hlt=>?_)
 · have hlt':i<l.length:=by
    simp only[au,decide_eq_true_eq] at hlt
    omega
   have hdr:l.drop i=l[i]::l.drop (i+1):=List.drop_eq_getElem_cons hlt'
   rw[hdr] at hfo
   unfold aT at hfo
   have hds:=kf d n
   have hdp:=qK d h hh hl n
   generalize hD:cT d n=dr at *
   obtain⟨es,e⟩:=dr
   dsimp only at hfo hds hdp
   conv=>whnf
   refine ak.pure hdp (fun w hw=>hw.1) (fun v D hv=>?_)
   obtain⟨k2,rfl,hk2,rfl⟩:=hv
   conv=>whnf
   refine aH.split (fun he=>?_) (fun he=>?_)
   · have he':e≠0:=by
      simp[ar] at he
      omega
     rw[if_pos he'] at hfo
     rw[hfo]
     conv=>whnf
     exact⟨_,aq.refl _,rfl⟩
   have he':e=0:=by
    simp[ar] at he
    omega
   rw[if_neg (by omega)] at hfo
   conv=>whnf
   refine aj.ah (ai.index ab (t:=51) rfl rfl rfl (by omega) (by omega) hk.nil fun ad had=>?_)
   conv=>whnf
   refine aj.ah (ai.load ab (t:=9) rfl rfl (ad:=ad) (k:=i) (L:=l.map aC) (v:=aC l[i]) (.fact fun w hw=>had ▸ hw.1.2) (by simp) (by simp[hlt']) ?_)
   conv=>whnf
   refine ak.val (iQ es k2 hk2 (by omega) l[i]) (fun w hw=>hw.2) (fun v D hv=>?_)
   generalize hf:db es l[i]=fi at hv hfo
   subst hv
   cases fi with
   | none=>
    dsimp only at hfo
    rw[hfo]
    obtain⟨z,hz⟩ : ∃ z:Int,z=ib none:=⟨_,rfl⟩
    rw[← hz]
    conv=>whnf
    refine aH.yes (by subst hz;simp[au,ib]) ?_
    conv=>whnf
    exact⟨_,aq.refl _,rfl⟩
   | some q=>
    have hq:=fH hf
    dsimp only at hfo
    rw[List.getElem?_eq_getElem hq] at hfo
    obtain⟨z,hz⟩ : ∃ z:Int,z=ib (some q):=⟨_,rfl⟩
    rw[← hz]
    have hz:z=(q:Int):=hz
    conv=>whnf
    refine aH.no (by subst hz;simp[au]) ?_
    conv=>whnf
    refine aj.ah (ai.index ab (t:=127) rfl rfl rfl (by omega) (by omega) hk2.nil fun ad2 had2=>?_)
    conv=>whnf
    refine aj.ah (ai.bS ab (t:=3) rfl rfl (ad:=ad2) (k:=2*q+1) (L:=bV es) (v:=aE es[q].2) (.fact fun w hw=>had2 ▸ hw.2) (fun hs=>by rw[Addr.dE hs,hz];congr 1;simp;try omega) (dz hq).2 ?_)
    conv=>whnf
    refine⟨(i+1,es[q].2),⟨⟨hlt',hfo⟩,by dsimp only;omega⟩,?_,?_,?_⟩
    · conv=>whnf
      refine⟨?_,rfl⟩
      repeat (first | exact aw.nil | refine aw.any ?_ | refine aw.cons ?_ | refine aw.eq (by rw[wrap_i64 (by omega)];rfl) ?_)
    · conv=>whnf
      exact trivial
    · refine aq.of_le ⟨by simp[Fx.and],fun w hw=>hw.1⟩
 · have hie:i=l.length:=by
    simp only[au,decide_eq_false_iff_not] at hlt
    omega
   subst hie
   rw[List.drop_length] at hfo
   rw[hfo]
   conv=>whnf
   exact⟨_,aq.refl _,rfl⟩
noncomputable def fu (d:List UInt8) (rec:Nat→List Nat→Option (List Nat)):List En→List Nat→Option (List Nat)
 | [],c=>some c
 | e::r,c=>if e.1 = [] then fu d rec r c else if a7 d e.2≠0∨0<c.getD e.2 0 then none else
  if rk d e.2=2 then (match rec e.2 (c.set e.2 (c.getD e.2 0+1)) with
   | none=>none
   | some c'=>fu d rec r c') else fu d rec r (c.set e.2 (c.getD e.2 0+1))
noncomputable def ev (d:List UInt8):Nat→Nat→List Nat→Option (List Nat)
 | 0,_,_=>none
 | f+1,n,c=>if cX (ay d n)=true then fu d (ev d f) (eT (ay d n)) c else none
def Cp (c:List Nat):Prop:=c.length=32∧∀ x∈c,x≤1
theorem Cp.set {c:List Nat} (h:Cp c) {m y:Nat} (hy:y=0):Cp (c.set m (y+1)):=by
 refine⟨by simp[h.1],fun z hz=>?_⟩
 rcases List.mem_or_eq_of_mem_set hz with h5 | h5
 · exact h.2 z h5
 · omega
theorem j5 {d:List UInt8} {rec:Nat→List Nat→Option (List Nat)} (hr : ∀ n c c',rec n c=some c'→Cp c→Cp c') : ∀ (l:List En) (c c':List Nat),fu d rec l c=some c'→Cp c→Cp c'
 | [],c,c',h,hc=>by
  unfold fu at h
  cases h
  exact hc
 | e::r,c,c',h,hc=>by
  unfold fu at h
  by_cases h1:e.1 = []
  · rw[if_pos h1] at h
    exact j5 hr r c c' h hc
  rw[if_neg h1] at h
  by_cases h2:a7 d e.2≠0∨0<c.getD e.2 0
  · rw[if_pos h2] at h
    cases h
  rw[if_neg h2] at h
  have hs:Cp (c.set e.2 (c.getD e.2 0+1)):=hc.set (by omega)
  by_cases h3:rk d e.2=2
  · rw[if_pos h3] at h
    cases hq:rec e.2 (c.set e.2 (c.getD e.2 0+1)) with
    | none=>rw[hq] at h;cases h
    | some c2=>
     rw[hq] at h
     exact j5 hr r c2 c' h (hr _ _ _ hq hs)
  · rw[if_neg h3] at h
    exact j5 hr r _ c' h hs
theorem mI {d:List UInt8} : ∀ (f n:Nat) (c c':List Nat),ev d f n c=some c'→Cp c→Cp c'
 | 0,n,c,c',h,_=>by cases h
 | f+1,n,c,c',h,hc=>by
  unfold ev at h
  split at h
  · exact j5 (fun n c c'=>mI f n c c') _ _ _ h hc
  · cases h
def zC (b:Nat) (r:Option (List Nat)) (v:Value) (F:Fx):Prop:=match r with
 | some c=>v = .bool true∧F=⟨fun _=>True,[(b,Row.c (c.map aE))]⟩
 | none=>v = .bool false∧F=⟨fun _=>True,[]⟩
theorem jq {D:World→Prop} {rs:List (Nat×Row)} {b:Nat} {r:Option (List Nat)} (h:r=none) : ∃ F',aq ⟨D,rs⟩ F'∧zC b r (.bool false) F':=by
 subst h
 exact⟨⟨fun _=>True,[]⟩,aq.bare fun _ _=>trivial,rfl,rfl⟩
theorem wM {c:List Nat} {k:Nat} (h:k<c.length) (v:Nat):laid (c.map aE) k [aE v]=(c.set k v).map aE:=by
 apply List.ext_getElem?
 intro j
 rw[nJ (by simp;omega)]
 by_cases hj:j=k
 · subst hj
   rw[if_pos (by simp)]
   simp[h]
 · rw[if_neg (by simp;omega)]
   simp[List.getElem?_set_ne (fun e=>hj e.symm)]
theorem zj {c:List Nat} {k:Nat} (h:k<c.length):(c.map aE)[k]? = some (aE (c.getD k 0)):=by
 rw[List.getElem?_map,List.getD_eq_getElem?_getD,List.getElem?_eq_getElem h]
 rfl
theorem yb (d:List UInt8) (h:Hd) (hh:h.Ok d.length) (hl:d.length≤1000000) (bc:Nat) : ∀ (f:Nat),f≤33→∀ (n:Nat) (c:List Nat) (dep:Int),dep=33 - f→a7 d n=0→rk d n=2→c.length=32→(∀ x∈c,x≤1)→
 bM Tryz.prog 55 [h.v d.length,.int .i64 (n:Int),.slice (some ⟨bc,0,none⟩) 32 32,.int .i64 dep] [(bc,Row.c (c.map aE))] (fun w=>By w h d) (zC bc (ev d f n c)):=by
 intro f
 induction f with
 | zero=>
  intro hf n c dep hdep hg hk hcl hc1
  refine bM.aF ab Tryz.func55 rfl (by decide) (n:=Tryz.f55.ntmps - 4) rfl rfl (by simp) fun w0 av=>?_
  conv=>whnf
  refine ak.pure (jU d h hh hl n) (fun w hw=>hw) (fun v D hv=>?_)
  obtain⟨k3,rfl,hk3,rfl⟩:=hv
  have hes:=nc (ay d n) k3 hk3 (jN hg hk)
  generalize ay d n=cc at *
  conv=>whnf
  refine ak.pure hes (fun w hw=>hw.2) (fun v D hv=>?_)
  obtain⟨k4,rfl,hk4,rfl⟩:=hv
  generalize cX cc=ok
  cases ok
  · conv=>whnf
    repeat (refine aa.of ?_;conv=>whnf)
    repeat' (first
     | (refine aH.yes rfl ?_;conv=>whnf))
    exact jq rfl
  · conv=>whnf
    repeat (refine aa.of ?_;conv=>whnf)
    refine aH.yes (by subst hdep;simp[bP]) ?_
    conv=>whnf
    exact jq rfl
 | succ f ih=>
  intro hf n c dep hdep hg hk hcl hc1
  refine bM.aF ab Tryz.func55 rfl (by decide) (n:=Tryz.f55.ntmps - 4) rfl rfl (by simp) fun w0 av=>?_
  obtain⟨T,hT⟩ : ∃ x,x=ev d (f+1) n c:=⟨_,rfl⟩
  rw[← hT]
  unfold ev at hT
  conv=>whnf
  refine ak.pure (jU d h hh hl n) (fun w hw=>hw) (fun v D hv=>?_)
  obtain⟨k3,rfl,hk3,rfl⟩:=hv
  have hes:=nc (ay d n) k3 hk3 (jN hg hk)
  have hsm:=lf (ay d n)
  generalize ay d n=cc at *
  conv=>whnf
  refine ak.pure hes (fun w hw=>hw.2) (fun v D hv=>?_)
  obtain⟨k4,rfl,hk4,rfl⟩:=hv
  generalize cX cc=ok at *
  cases ok
  · conv=>whnf
    repeat (refine aa.of ?_;conv=>whnf)
    repeat' (first
     | (refine aH.yes rfl ?_;conv=>whnf))
    rw[if_neg (by simp)] at hT
    exact jq hT
  rw[if_pos rfl] at hT
  generalize eT cc=es at *
  generalize hrec:ev d f=rec at *
  conv=>whnf
  repeat (refine aa.of ?_;conv=>whnf)
  refine aH.no (by subst hdep;simp[bP];omega) ?_
  conv=>whnf
  refine aI.loop ab (ι:=Nat×List Nat) ([11,12,13,14]++List.range' 28 50) (fun x=>x.1≤es.length∧T=fu d rec (es.drop x.1) x.2∧x.2.length=32∧∀ y∈x.2,y≤1)
   (fun x=>[(11,.v (.int .i64 (x.1:Int)))]) (fun _=>[]) (fun x=>⟨fun w=>By w h d∧aB w k4.a (bV es),[(bc,Row.c (x.2.map aE))]⟩)
   (fun x=>es.length - x.1) (0,c) ⟨Nat.zero_le _,hT,hcl,hc1⟩ ?_ rfl (aq.of_le ⟨by simp[Fx.and],fun w hw=>⟨hw.1.1,hw.2⟩⟩) fun x hx=>?_
  · conv=>whnf
    repeat (first | exact aw.nil | refine aw.any ?_ | refine aw.cons ?_)
  clear hT hcl hc1
  obtain⟨i,c⟩:=x
  obtain⟨hi,hT,hcl,hc1⟩:=hx
  dsimp only at hi hT hcl hc1 ⊢
  conv=>whnf
  refine aH.split (fun hlt=>?_) (fun hlt=>?_)
  · have hlt':i<es.length:=by
     simp only[au,decide_eq_true_eq] at hlt
     omega
    rw[List.drop_eq_getElem_cons hlt'] at hT
    unfold fu at hT
    generalize hm:es[i].2=m at *
    generalize hnm:es[i].1=nm at *
    have hc1':=(dz hlt').1
    have hc2':=(dz hlt').2
    rw[hnm] at hc1'
    rw[hm] at hc2'
    conv=>whnf
    refine aj.ah (ai.index ab (t:=127) rfl rfl rfl (by omega) (by omega) hk4.nil fun ad had=>?_)
    conv=>whnf
    refine aj.ah (ai.bS ab (t:=3) rfl rfl (ad:=ad) (k:=2*i+1) (L:=bV es) (v:=aE m) (.fact fun w hw=>had ▸ hw.2) (fun hs=>by rw[Addr.dE hs];congr 1;simp;try omega) hc2' ?_)
    conv=>whnf
    refine aj.ah (ai.index ab (t:=127) rfl rfl rfl (by omega) (by omega) hk4.nil fun ad had=>?_)
    conv=>whnf
    refine aj.ah (ai.bS ab (t:=9) rfl rfl (ad:=ad) (k:=2*i) (L:=bV es) (v:=aC nm) (.fact fun w hw=>had ▸ hw.2) (fun hs=>by rw[Addr.dE hs];congr 1;simp;try omega) hc1' ?_)
    conv=>whnf
    refine aj.ah (ai.fL (l:=nm) (m:=[]) ?_)
    conv=>whnf
    refine aH.split (fun hq=>?_) (fun hq=>?_)
    · have hq':nm = []:=by simpa using hq
      rw[if_pos hq'] at hT
      conv=>whnf
      refine⟨(i+1,c),⟨⟨hlt',hT,hcl,hc1⟩,by dsimp only;omega⟩,?_,?_,aq.refl _⟩
      · conv=>whnf
        refine⟨?_,rfl⟩
        repeat (first | exact aw.nil | refine aw.any ?_ | refine aw.cons ?_ | refine aw.eq (by rw[wrap_i64 (by omega)];rfl) ?_)
      · conv=>whnf
        exact trivial
    have hq':nm≠[]:=by simpa using hq
    rw[if_neg hq'] at hT
    obtain⟨k,s,b,hL,hE⟩:=cJ d m
    conv=>whnf
    refine ak.val (dA d h hh hl m) (fun w hw=>hw.1) (fun v D hv=>?_)
    rw[hL] at hv
    generalize hge:a7 d m=e at hv hT
    subst hv
    conv=>whnf
    intro b0
    conv=>whnf
    repeat (refine aa.of ?_;conv=>whnf)
    refine aH.split (fun he=>?_) (fun he=>?_)
    · have he':e≠0:=by
       simp[ar] at he
       omega
      rw[if_pos (.inl he')] at hT
      conv=>whnf
      repeat (refine aa.of ?_;conv=>whnf)
      repeat' (first
       | (refine aH.yes rfl ?_;conv=>whnf))
      exact jq hT
    have he':e=0:=by
     simp[ar] at he
     omega
    obtain⟨hd,hok,m',hm',hm32,hrk⟩:=cd (hge.trans he')
    have hm':m=m':=by omega
    subst hm'
    obtain⟨hk',hs',hb'⟩:=hE (hge.trans he')
    rw[Int.toNat_natCast] at hk' hs' hb'
    have hcm:=zj (c:=c) (k:=m) (by omega)
    have hset:=wM (c:=c) (k:=m) (by omega) (c.getD m 0+1)
    have hcy:c.getD m 0≤1:=by
     rw[List.getD_eq_getElem?_getD,List.getElem?_eq_getElem (by omega)]
     exact hc1 _ (List.getElem_mem _)
    generalize hy:c.getD m 0=y at *
    conv=>whnf
    repeat (refine aa.of ?_;conv=>whnf)
    refine aj.ah (ai.jf ab (t:=97) rfl rfl rfl rfl m rfl (by omega) ?_)
    conv=>whnf
    refine aj.ah (ai.load ab (t:=3) rfl rfl (ad:=⟨bc,0,none⟩) (k:=m) (L:=c.map aE) (v:=aE y) (bp.row (by simp)) (by rw[wR]) hcm ?_)
    conv=>whnf
    repeat (refine aa.of ?_;conv=>whnf)
    refine aH.split (fun hgt=>?_) (fun hgt=>?_)
    · have hgt':0<y:=by
       simp[bP] at hgt
       omega
      rw[if_pos (.inr hgt')] at hT
      conv=>whnf
      exact jq hT
    have hy0:y=0:=by
     simp[bP] at hgt
     omega
    rw[if_neg (by omega)] at hT
    conv=>whnf
    refine aj.ah (ai.jf ab (t:=97) rfl rfl rfl rfl m rfl (by omega) ?_)
    conv=>whnf
    refine aj.ah (ai.load ab (t:=3) rfl rfl (ad:=⟨bc,0,none⟩) (k:=m) (L:=c.map aE) (v:=aE y) (bp.row (by simp)) (by rw[wR]) hcm ?_)
    conv=>whnf
    refine aj.ah (ai.jf ab (t:=97) rfl rfl rfl rfl m rfl (by omega) ?_)
    conv=>whnf
    refine a_.cE ab (t:=3) rfl (r1:=[]) (r2:=[]) (b:=bc) (k:=m) (C:=c.map aE) rfl rfl (by simp[Value.cells,aO]) (by simp;omega) ?_
    have hst:laid (c.map aE) m (Value.int .i64 (IntKind.i64.wrap ((y:Int)+1))).cells.toList=(c.set m (y+1)).map aE:=by
     rw[← hset]
     have:IntKind.i64.wrap ((y:Int)+1)=((y+1:Nat):Int):=by
      rw[wrap_i64 (by omega)]
      omega
     rw[this]
     rfl
    rw[hst]
    have hc2l:(c.set m (y+1)).length=32:=by simp[hcl]
    have hc21 : ∀ z∈c.set m (y+1),z≤1:=by
     intro z hz
     rcases List.mem_or_eq_of_mem_set hz with h5 | h5
     · exact hc1 z h5
     · omega
    generalize c.set m (y+1)=c2 at *
    conv=>whnf
    refine aH.split (fun hk2=>?_) (fun hk2=>?_)
    · have hk2':rk d m=2:=by
       simp[aD] at hk2
       omega
      rw[if_pos hk2'] at hT
      conv=>whnf
      have ih':=ih (by omega) m c2 (IntKind.i64.wrap (dep+1)) (by rw[hdep,wrap_i64 (by omega)];omega) (hge.trans he') hk2' hc2l hc21
      refine ak.rows (r1:=[]) (r2:=[]) ih' (fun w hw=>hw.1) (fun v F' hv=>?_)
      unfold zC at hv
      cases hr:rec m c2 with
      | none=>
       rw[hr] at hv hT
       obtain⟨rfl,rfl⟩:=hv
       conv=>whnf
       repeat (refine aa.of ?_;conv=>whnf)
       repeat' (first
        | (refine aH.yes rfl ?_;conv=>whnf))
       exact jq hT
      | some c3=>
       rw[hr] at hv hT
       obtain⟨rfl,rfl⟩:=hv
       conv=>whnf
       repeat (refine aa.of ?_;conv=>whnf)
       repeat' (first
        | (refine aH.no rfl ?_;conv=>whnf))
       rw[← hrec] at hr
       obtain⟨g1,g2⟩:=mI f m c2 c3 hr ⟨hc2l,hc21⟩
       refine⟨(i+1,c3),⟨⟨hlt',hT,g1,g2⟩,by dsimp only;omega⟩,?_,?_,?_⟩
       · conv=>whnf
         refine⟨?_,rfl⟩
         repeat (first | exact aw.nil | refine aw.any ?_ | refine aw.cons ?_ | refine aw.eq (by rw[wrap_i64 (by omega)];rfl) ?_)
       · conv=>whnf
         exact trivial
       · refine aq.of_le ⟨by simp,fun w hw=>hw.1⟩
    · have hk2':rk d m≠2:=by
       simp[aD] at hk2
       omega
      rw[if_neg hk2'] at hT
      conv=>whnf
      repeat (refine aa.of ?_;conv=>whnf)
      refine⟨(i+1,c2),⟨⟨hlt',hT,hc2l,hc21⟩,by dsimp only;omega⟩,?_,?_,?_⟩
      · conv=>whnf
        refine⟨?_,rfl⟩
        repeat (first | exact aw.nil | refine aw.any ?_ | refine aw.cons ?_ | refine aw.eq (by rw[wrap_i64 (by omega)];rfl) ?_)
      · conv=>whnf
        exact trivial
      · refine aq.of_le ⟨by simp,fun w hw=>hw⟩
  · have hie:i=es.length:=by
     simp only[au,decide_eq_false_iff_not] at hlt
     omega
    subst hie
    rw[List.drop_length] at hT
    unfold fu at hT
    rw[hT]
    conv=>whnf
    exact⟨⟨fun _=>True,[(bc,Row.c (c.map aE))]⟩,aq.of_le ⟨List.Sublist.refl _,fun w _=>trivial⟩,rfl,rfl⟩
def eV:List Nat:=(List.replicate 32 0).set 0 1
def Reached (d:List UInt8) (c:List Nat):Prop:=∀ n:Nat,n<32→(a7 d n=0↔c.getD n 0=1)
noncomputable instance (d:List UInt8) (c:List Nat):Decidable (Reached d c):=Classical.propDecidable _
noncomputable def aM (d:List UInt8):Nat:=if dM d≠0 then dM d else match ev d 33 0 eV with
 | none=>4
 | some c=>if Reached d c then 0 else 4
theorem qt {d:List UInt8} (hd:d.length=12288) (ho:eZ d):rk d 0=2∧a7 d (0:Nat)=0:=by
 have hf:=ho.form 0 (by decide)
 unfold cH at hf
 rw[Bool.and_eq_true] at hf
 have h2:=hf.2
 split at h2
 · simp at h2
 · rw[decide_eq_true_eq] at h2
   have hk:=h2.2.2.1 rfl
   refine⟨hk,?_⟩
   unfold a7
   rw[mj hd ho,if_neg (by simp),if_neg (by simp)]
   rw[if_neg (by show ¬ rk d 0=0;omega)]
theorem eN (d:List UInt8) (h:Hd) (hh:h.Ok d.length) (hl:d.length≤1000000):af Tryz.prog 29 [h.v d.length] (fun w=>By w h d) (fun v F=>v = .int .i64 (aM d:Int)):=by
 refine af.aF ab Tryz.func29 rfl (by decide) (n:=Tryz.f29.ntmps - 1) rfl rfl fun w0 av=>?_
 conv=>whnf
 refine ak.val (jP d h hh hl) (fun w hw=>hw) (fun v D hv=>?_)
 generalize hch:dM d=e at hv
 subst hv
 conv=>whnf
 refine aH.split (fun he=>?_) (fun he=>?_)
 · have he':e≠0:=by
    simp[ar] at he
    omega
   have:aM d=e:=by
    unfold aM
    rw[hch,if_pos he']
   rw[this]
   conv=>whnf
   exact⟨_,aq.refl _,rfl⟩
 have he':e=0:=by
  simp[ar] at he
  omega
 subst he'
 obtain⟨hd,hok⟩:=bl hch
 obtain⟨hr0,hg0⟩:=qt hd hok
 have hC:aM d=match ev d 33 0 eV with
  | none=>4
  | some c=>if Reached d c then 0 else 4:=by
  unfold aM
  rw[hch,if_neg (by simp)]
 conv=>whnf
 refine aj.pJ ab (t:=97) rfl rfl rfl 32 rfl rfl (by omega) (by decide) rfl (by omega) (by simp) fun b0=>?_
 conv=>whnf
 refine aj.ah (ai.jf ab (t:=97) rfl rfl rfl rfl 0 rfl (by decide) ?_)
 conv=>whnf
 refine a_.c_ (F':=⟨fun w=>By w h d,[] ++ [(b0,Row.c ((List.replicate 32 0).map aE))] ++ []⟩) (aq.of_le ⟨List.Sublist.refl _,fun w hw=>hw⟩) ?_
 refine a_.cE ab (t:=3) rfl (r1:=[]) (r2:=[]) (b:=b0) (k:=0) (C:=(List.replicate 32 0).map aE) rfl rfl (by simp[Value.cells,aO]) (by simp) ?_
 have hst:laid ((List.replicate 32 0).map aE) 0 (Value.int .i64 1).cells.toList=eV.map aE:=wM (c:=List.replicate 32 0) (k:=0) (by simp) 1
 rw[hst]
 have hrs:=yb d h hh hl b0 33 (by omega) 0 eV 0 (by omega) hg0 hr0 (by simp[eV]) (by decide)
 conv=>whnf
 refine ak.rows (r1:=[]) (r2:=[]) hrs (fun w hw=>hw) (fun v F' hv=>?_)
 unfold zC at hv
 cases hr:ev d 33 0 eV with
 | none=>
  rw[hr] at hv hC
  obtain⟨rfl,rfl⟩:=hv
  rw[hC]
  conv=>whnf
  repeat (refine aa.of ?_;conv=>whnf)
  exact⟨_,aq.refl _,rfl⟩
 | some c=>
  have hcl:=(mI 33 0 eV c hr ⟨by simp[eV],by decide⟩).1
  rw[hr] at hv hC
  obtain⟨rfl,rfl⟩:=hv
  dsimp only at hC
  conv=>whnf
  repeat (refine aa.of ?_;conv=>whnf)
  refine aI.loop ab (ι:=Nat) ([5,6,7]++List.range' 20 18) (fun x=>x≤32∧∀ n:Nat,n<x→(a7 d n=0↔c.getD n 0=1))
   (fun x=>[(5,.v (.int .i64 (x:Int)))]) (fun _=>[]) (fun x=>⟨fun w=>By w h d,[(b0,Row.c (c.map aE))]⟩)
   (fun x=>32 - x) 0 ⟨Nat.zero_le _,fun n hn=>by omega⟩ ?_ rfl (aq.of_le ⟨by simp,fun w hw=>hw.1⟩) fun i hi=>?_
  · conv=>whnf
    repeat (first | exact aw.nil | refine aw.any ?_ | refine aw.cons ?_)
  obtain⟨hi,hall⟩:=hi
  conv=>whnf
  refine aH.split (fun hlt=>?_) (fun hlt=>?_)
  · have hlt':i<32:=by
     simp only[au,decide_eq_true_eq] at hlt
     omega
    obtain⟨k,s,b,hL,hE⟩:=cJ d i
    conv=>whnf
    refine ak.val (dA d h hh hl i) (fun w hw=>hw) (fun v D hv=>?_)
    rw[hL] at hv
    generalize hge:a7 d i=e at hv
    subst hv
    conv=>whnf
    intro b1
    conv=>whnf
    refine aj.ah (ai.jf ab (t:=97) rfl rfl rfl rfl i rfl (by omega) ?_)
    conv=>whnf
    have hcm:=zj (c:=c) (k:=i) (by omega)
    generalize hy:c.getD i 0=y at *
    refine aj.ah (ai.load ab (t:=3) rfl rfl (ad:=⟨b0,0,none⟩) (k:=i) (L:=c.map aE) (v:=aE y) (bp.row (by simp)) (by rw[wR]) hcm ?_)
    conv=>whnf
    have q1:cN (e:Int) 0=decide (e=0):=dP e 0
    have q2:cN (y:Int) 1=decide (y=1):=dP y 1
    refine aH.split (fun hne=>?_) (fun hne=>?_)
    · have : ¬ Reached d c:=by
       intro hR
       have:=hR i hlt'
       rw[hge,hy] at this
       rw[q1,q2] at hne
       have h3:decide (e=0)=decide (y=1):=by rw[decide_eq_decide];exact this
       rw[h3] at hne
       simp at hne
      rw[if_neg this] at hC
      rw[hC]
      conv=>whnf
      exact⟨_,aq.bare fun _ _=>trivial,rfl⟩
    · conv=>whnf
      refine⟨i+1,⟨⟨hlt',fun n hn=>?_⟩,by dsimp only;omega⟩,?_,?_,aq.refl _⟩
      · rcases Nat.lt_or_eq_of_le (Nat.lt_succ_iff.1 hn) with h5 | h5
        · exact hall n h5
        · subst h5
          rw[hge,hy]
          rw[q1,q2] at hne
          have h3:decide (e=0)=decide (y=1):=by simpa using hne
          rwa [decide_eq_decide] at h3
      · conv=>whnf
        refine⟨?_,rfl⟩
        repeat (first | exact aw.nil | refine aw.any ?_ | refine aw.cons ?_ | refine aw.eq (by rw[wrap_i64 (by omega)];rfl) ?_)
      · conv=>whnf
        exact trivial
  · have hie:i=32:=by
     simp only[au,decide_eq_false_iff_not] at hlt
     omega
    subst hie
    rw[if_pos (show Reached d c from hall)] at hC
    rw[hC]
    conv=>whnf
    exact⟨_,aq.bare fun _ _=>trivial,rfl⟩
theorem CF {l:List En} {Z:List Value} {k:Nat} (hk:k<l.length) (e:En):laid (bV l++Z) (2*k) (gQ e)=bV (l.set k e)++Z:=by
 have hl:=jC l
 have hl2:=jC (l.set k e)
 rw[List.length_set] at hl2
 have he:(gQ e).length=2:=rfl
 apply List.ext_getElem?
 intro j
 rw[nJ (by rw[List.length_append];omega)]
 by_cases hj:2*k≤j∧j<2*k+(gQ e).length
 · rw[if_pos hj,List.getElem?_append_left (by omega)]
   have hg:=dz (l:=l.set k e) (i:=k) (by simpa using hk)
   simp only[List.getElem_set_self] at hg
   rcases(show j=2*k∨j=2*k+1 by omega) with rfl | rfl
   · rw[hg.1];simp[gQ]
   · rw[hg.2,show 2*k+1 - 2*k=1 by omega];rfl
 · rw[if_neg hj]
   by_cases hjl:j<l.length*2
   · rw[List.getElem?_append_left (by omega),List.getElem?_append_left (by omega)]
     have hq:j/2<l.length:=by omega
     have hne:k≠j/2:=by omega
     have h1:=dz hq
     have h2:=dz (l:=l.set k e) (i:=j/2) (by simpa using hq)
     rw[List.getElem_set_ne hne] at h2
     rcases(show j=2*(j/2)∨j=2*(j/2)+1 by omega) with h3 | h3
     · rw[h3,h1.1,h2.1]
     · rw[h3,h1.2,h2.2]
   · rw[List.getElem?_append_right (by omega),List.getElem?_append_right (by omega),hl,hl2]
theorem Own.DC {n b cap:Nat} {C:List Value} {l:List En} (h:Own 2 n (some ⟨b,0,none⟩) cap C (bV l)) {k:Nat} (hk:k<l.length) (hn:n=l.length) (e:En) :
 2*k+2≤C.length∧Own 2 n (some ⟨b,0,none⟩) cap (laid C (2*k) (gQ e)) (bV (l.set k e)):=by
 have hl:=jC l
 have hfit:=h.fit
 rcases h.alt with⟨h1,_⟩ | ⟨b',h1,h2,h3⟩
 · cases h1
 · have hC:C=bV l++C.drop (n*2):=by
    conv=>lhs;rw[← List.take_append_drop (n*2) C]
    rw[h3]
   have hle:2*k+2≤C.length:=by omega
   refine⟨hle,by rw[jC,List.length_set];omega,hfit,.inr ⟨b,rfl,?_,?_⟩⟩
   · rw[wo (by show 2*k+2≤_;omega),h2]
   · rw[hC,CF hk]
     have:n*2=(bV (l.set k e)).length:=by rw[jC,List.length_set];omega
     rw[this,List.take_left]
theorem vQ (c:List UInt8) : ∀ e∈eT c,e.1.length≤14:=by
 intro e he
 unfold eT at he
 split at he
 · simp only[eA,List.mem_map,List.mem_range] at he
   obtain⟨i,_,rfl⟩:=he
   have:=j_ c 14 (16*i)
   unfold fZ cut
   simp
   omega
 · cases he
theorem rG (d:List UInt8) (n:Int) : ∀ e∈(cT d n).1,e.1.length≤14:=by
 unfold cT
 split
 · intro e he
   cases he
 · split
   · intro e he
     cases he
   · exact vQ _
theorem je {s:List UInt8} (h:cK s=true):1≤s.length∧s.length≤14:=by
 unfold cK at h
 simp only[Bool.and_eq_true,decide_eq_true_eq] at h
 exact h.2
theorem dH (p:List UInt8) : ∀ s∈(aL p).1,cK s=true:=by
 unfold aL
 split
 · split
   · intro s hs
     cases hs
   · split
     · rename_i h
       rw[List.all_eq_true] at h
       exact h
     · intro s hs
       cases hs
 · intro s hs
   cases hs
theorem fv (p:List UInt8):(aL p).2=0∨((aL p).2=15∧(aL p).1 = []):=by
 unfold aL
 split
 · split
   · exact .inl rfl
   · split
     · exact .inl rfl
     · exact .inr ⟨rfl,rfl⟩
 · exact .inr ⟨rfl,rfl⟩
noncomputable def bE (d:List UInt8) (p:List UInt8) (kind:Int):Nat×List UInt8×Nat:=
 if aM d≠0 then (0,[],aM d) else
 if (aL p).2≠0 then (0,[],15) else
 if kind≠1∧kind≠2 then (0,[],1) else
 if (aL p).1 = [] then (0,[],9) else
 if (aT d (aL p).1.dropLast 0).2≠0 then (0,[],(aT d (aL p).1.dropLast 0).2) else
 if (cT d (aT d (aL p).1.dropLast 0).1).2≠0 then (0,[],(cT d (aT d (aL p).1.dropLast 0).1).2) else
 if db (cT d (aT d (aL p).1.dropLast 0).1).1 ((aL p).1.getLastD [])≠none then (0,[],9) else
 match db (cT d (aT d (aL p).1.dropLast 0).1).1 [] with
 | none=>(0,[],13)
 | some k=>if (aN d kind.toNat).2.2≠0 then (0,[],(aN d kind.toNat).2.2) else
  ((aN d kind.toNat).1,(bQ (aN d kind.toNat).2.1 (aT d (aL p).1.dropLast 0).1 (il ((cT d (aT d (aL p).1.dropLast 0).1).1.set k ((aL p).1.getLastD [],(aN d kind.toNat).1)))).1,0)
theorem yn (d:List UInt8) (kind:Nat):(aN d kind).2.1.length≤1000000:=by
 unfold aN
 by_cases h:dM d≠0
 · rw[if_pos h]
   simp
 rw[if_neg h]
 obtain⟨hd,hok⟩:=bl (show dM d=0 by omega)
 cases hf:fy d with
 | none=>simp
 | some n=>
  have hn:n<32:=by
   unfold fy at hf
   exact List.mem_range.1 (List.mem_of_find?_eq_some hf)
  simp only
  split
  · cases hb:cI (bA d) with
    | none=>simp
    | some x=>
     simp only
     rw[bf (cY hd (dK hb).2) hn]
     omega
  · simp only
    rw[bf hd hn]
    omega
theorem eG {l:List (List UInt8)} (h:l≠[]):l[l.length - 1]? = some (l.getLastD []):=lA h
def y8 (n:Nat) (d:List UInt8) (e:Nat) (v:Value) (F:Fx):Prop:=(∃ b cap Z,v = .tuple #[.int .i64 (n:Int),.slice (some ⟨b,0,none⟩) d.length cap,.int .i64 (e:Int)]∧d.length≤cap∧F=⟨fun _=>True,[(b,Row.c (d.map ao++Z))]⟩)∨
 (d = []∧v = .tuple #[.int .i64 (n:Int),.slice none 0 0,.int .i64 (e:Int)]∧F=⟨fun _=>True,[]⟩)
theorem xf {D:World→Prop} {rs:List (Nat×Row)} {n e:Nat} : ∃ F',aq ⟨D,rs⟩ F'∧y8 n [] e (.tuple #[.int .i64 (n:Int),.slice none 0 0,.int .i64 (e:Int)]) F':=
 ⟨⟨fun _=>True,[]⟩,aq.bare fun w _=>trivial,.inr ⟨rfl,rfl,rfl⟩⟩
theorem eP {D:World→Prop} {rs:List (Nat×Row)} {e:Nat} : ∃ F',aq ⟨D,rs⟩ F'∧y8 0 [] e (.tuple #[.int .i64 0,.slice none 0 0,.int .i64 (e:Int)]) F':=xf
theorem xL {f:FuncId} {vs:List Value} {Pre:World→Prop} {n:Nat} {d:List UInt8} {e:Nat} (h:af Tryz.prog f vs Pre (y8 n d e)):af Tryz.prog f vs Pre (qX n d e):=
 h.weaken fun v F hv=>by
  rcases hv with⟨b,cap,Z,rfl,hc,rfl⟩ | ⟨rfl,rfl,rfl⟩
  · exact⟨⟨fun w=>By w ⟨some ⟨b,0,none⟩,cap⟩ d,[]⟩,aq.kr (r1:=[]) (r2:=[]),⟨some ⟨b,0,none⟩,cap⟩,rfl,⟨fun h=>(by cases h),hc⟩,rfl⟩
  · exact⟨⟨fun w=>By w Hd.nil [],[]⟩,aq.bare fun w _=>By.nil w,Hd.nil,rfl,Hd.dq,rfl⟩
theorem uS (d:List UInt8) (h:Hd) (hh:h.Ok d.length) (hl:d.length≤1000000) (p:List UInt8) (hp:p.length≤200) (kind:Int) :
 af Tryz.prog 35 [h.v d.length,aC p,.int .i64 kind] (fun w=>By w h d) (y8 (bE d p kind).1 (bE d p kind).2.1 (bE d p kind).2.2):=by
 obtain⟨M,hM⟩ : ∃ x,x=bE d p kind:=⟨_,rfl⟩
 rw[← hM]
 unfold bE at hM
 refine af.aF ab Tryz.func35 rfl (by decide) (n:=Tryz.f35.ntmps - 3) rfl rfl fun w0 av=>?_
 conv=>whnf
 refine ak.val (eN d h hh hl) (fun w hw=>hw) (fun v D hv=>?_)
 generalize hch:aM d=e at hv hM
 subst hv
 conv=>whnf
 refine aH.split (fun he=>?_) (fun he=>?_)
 · have he':e≠0:=by
    simp[ar] at he
    omega
   rw[if_pos he'] at hM
   rw[hM]
   conv=>whnf
   exact eP
 have he':e=0:=by
  simp[ar] at he
  omega
 rw[if_neg (by omega)] at hM
 have hsm:=eK p hp
 have hsn:=dH p
 have hse:=fv p
 have hsp:=ja p hp
 generalize aL p=sp at *
 obtain⟨names,se⟩:=sp
 dsimp only at hM hsm hsn hse
 conv=>whnf
 refine ak.pure hsp (fun w hw=>trivial) (fun v D hv=>?_)
 obtain⟨kn,rfl,hkn,rfl⟩:=hv
 dsimp only at hkn ⊢
 conv=>whnf
 refine aH.split (fun hs=>?_) (fun hs=>?_)
 · have hs':se≠0:=by
    simpa [ar] using hs
   rw[if_pos hs'] at hM
   rw[hM]
   have:se=15:=(hse.resolve_left hs').1
   subst this
   conv=>whnf
   exact eP
 have hs':se=0:=by
  simpa [ar] using hs
 rw[if_neg (by omega)] at hM
 conv=>whnf
 repeat (refine aa.of ?_;conv=>whnf)
 refine aH.split (fun hk=>?_) (fun hk=>?_)
 · have hk':kind≠1∧kind≠2:=by
    simpa [ar] using hk
   rw[if_pos hk'] at hM
   rw[hM]
   conv=>whnf
   exact eP
 have hk':kind=1∨kind=2:=by
  simp[ar] at hk
  omega
 rw[if_neg (by omega)] at hM
 conv=>whnf
 refine aH.split (fun hn=>?_) (fun hn=>?_)
 · have hn':names = []:=by
    simp[aD] at hn
    exact hn
   rw[if_pos hn'] at hM
   rw[hM]
   conv=>whnf
   exact eP
 have hn':names≠[]:=by
  simp[aD] at hn
  exact hn
 rw[if_neg hn'] at hM
 have hlen:0<names.length:=List.length_pos_iff.2 hn'
 have hw1:IntKind.i64.wrap ((names.length:Int) - 1)=((names.length - 1:Nat):Int):=by
  rw[wrap_i64 (by omega)]
  omega
 have hlast:=eG hn'
 have hlv:cK (names.getLastD [])=true:=hsn _ (List.mem_of_getElem? hlast)
 generalize names.getLastD []=last at *
 have hdl:names.dropLast=names.take (names.length - 1):=List.dropLast_eq_take
 rw[hdl] at hM
 conv=>whnf
 refine aj.ah (ai.index ab (t:=51) rfl rfl rfl (by rw[hw1];omega) (by rw[hw1];omega) hkn.nil fun ad had=>?_)
 conv=>whnf
 refine aj.ah (ai.load ab (t:=9) rfl rfl (ad:=ad) (k:=names.length - 1) (L:=names.map aC) (v:=aC last) (.fact fun w hw=>had ▸ hw.2) (by rw[hw1];simp) (by rw[List.getElem?_map,hlast];rfl) ?_)
 conv=>whnf
 refine aj.ah (ai.gA ab (t:=51) rfl rfl rfl (names.length - 1) hw1 (Nat.le_trans (by omega) hkn.cap) ?_)
 conv=>whnf
 have hfs:=iU d h hh hl kn (names.take (names.length - 1)) ⟨fun h0=>by have:=hkn.nil h0;omega,by have:=hkn.cap;rw[List.length_take];omega⟩ (by rw[List.length_take];omega)
 rw[List.length_take,Nat.min_eq_left (by omega)] at hfs
 generalize aT d (names.take (names.length - 1)) 0=fr at *
 obtain⟨at0,fe⟩:=fr
 dsimp only at hM hfs
 refine ak.val hfs (fun w hw=>⟨hw.1,?_⟩) (fun v D hv=>?_)
 · have:=aB.take hw.2 (names.length - 1)
   unfold b_
   rw[List.map_take]
   exact this
 unfold fc at hv
 subst hv
 conv=>whnf
 refine aH.split (fun hf=>?_) (fun hf=>?_)
 · have hf':fe≠0:=by
    simp[ar] at hf
    omega
   rw[if_pos hf'] at hM
   rw[hM]
   conv=>whnf
   exact eP
 have hf':fe=0:=by
  simp[ar] at hf
  omega
 rw[if_neg (by omega)] at hM
 have hds:=kf d at0
 have hdn:=rG d at0
 have hdp:=n9 d h hh hl at0
 generalize cT d at0=dr at *
 obtain⟨es,de⟩:=dr
 dsimp only at hM hds hdn hdp
 conv=>whnf
 refine ak.pure hdp (fun w hw=>hw.1) (fun v D hv=>?_)
 obtain⟨a,cap,C,rfl,hO,rfl⟩:=hv
 conv=>whnf
 refine aH.split (fun hd=>?_) (fun hd=>?_)
 · have hd':de≠0:=by
    simp[ar] at hd
    omega
   rw[if_pos hd'] at hM
   rw[hM]
   conv=>whnf
   exact eP
 have hd':de=0:=by
  simp[ar] at hd
  omega
 rw[if_neg (by omega)] at hM
 have hOk:(⟨a,cap⟩:Hd).Ok es.length:=⟨fun ha=>hO.e6 ha,hO.fit⟩
 conv=>whnf
 refine ak.c_ (F':=⟨fun w=>By w h d,[]++aR a C ++ []⟩) (aq.of_le ⟨by simp[Fx.and],fun w hw=>hw.1.1⟩) ?_
 refine ak.look (iQ es ⟨a,cap⟩ hOk (by omega) last) (Loc.row _ _) (fun w hst=>hO.at hst) ?_
 generalize hfi:db es last=fi at hM
 cases fi with
 | some q=>
  rw[if_pos (by simp)] at hM
  rw[hM]
  obtain⟨z,hz⟩ : ∃ z:Int,z=ib (some q):=⟨_,rfl⟩
  rw[← hz]
  have hz:z=(q:Int):=hz
  conv=>whnf
  refine aH.yes (by subst hz;simp[bI]) ?_
  conv=>whnf
  exact eP
 | none=>
 rw[if_neg (by simp)] at hM
 obtain⟨z,hz⟩ : ∃ z:Int,z=ib none:=⟨_,rfl⟩
 rw[← hz]
 have hz:z = -1:=hz
 conv=>whnf
 refine aH.no (by subst hz;simp[bI]) ?_
 conv=>whnf
 refine ak.look (iQ es ⟨a,cap⟩ hOk (by omega) []) (Loc.row _ _) (fun w hst=>hO.at hst) ?_
 generalize hfi2:db es []=fi2 at hM
 cases fi2 with
 | none=>
  dsimp only at hM
  rw[hM]
  obtain⟨z2,hz2⟩ : ∃ z:Int,z=ib none:=⟨_,rfl⟩
  rw[← hz2]
  have hz2:z2 = -1:=hz2
  conv=>whnf
  refine aH.yes (by subst hz2;simp[au]) ?_
  conv=>whnf
  exact eP
 | some q=>
 dsimp only at hM
 have hq:=fH hfi2
 obtain⟨z2,hz2⟩ : ∃ z:Int,z=ib (some q):=⟨_,rfl⟩
 rw[← hz2]
 have hz2:z2=(q:Int):=hz2
 conv=>whnf
 refine aH.no (by subst hz2;simp[au]) ?_
 conv=>whnf
 have hal:=uy d h hh hl kind.toNat (by omega)
 rw[show((kind.toNat:Nat):Int)=kind by omega] at hal
 have hall:=yn d kind.toNat
 generalize aN d kind.toNat=al at *
 obtain⟨n,d2,ae⟩:=al
 dsimp only at hM hal hall
 refine ak.pure hal (fun w hw=>hw) (fun v D hv=>?_)
 obtain⟨k2,rfl,hk2,rfl⟩:=hv
 conv=>whnf
 refine aH.split (fun ha=>?_) (fun ha=>?_)
 · have ha':ae≠0:=by
    simp[ar] at ha
    omega
   rw[if_pos ha'] at hM
   rw[hM]
   conv=>whnf
   exact eP
 have ha':ae=0:=by
  simp[ar] at ha
  omega
 rw[if_neg (by omega)] at hM
 obtain⟨bb,rfl⟩:=ij hO (by omega)
 obtain⟨hle,hO2⟩:=Own.DC hO hq rfl (last,n)
 conv=>whnf
 refine aj.ah (ai.index ab (t:=127) rfl rfl rfl (by omega) (by omega) (fun h=>by cases h) fun ad2 had2=>?_)
 cases had2
 conv=>whnf
 refine a_.c_ (F':=⟨fun w=>By w h d∧By w k2 d2,[] ++ [(bb,Row.c C)] ++ []⟩) (aq.of_le ⟨by simp[Fx.and,aR],fun w hw=>hw⟩) ?_
 refine a_.cE ab (t:=132) rfl (r1:=[]) (r2:=[]) (b:=bb) (k:=2*q) (C:=C) (by rw[Addr.aV,hz2];simp;omega) rfl (by simp[Value.cells,aC,aO]) hle ?_
 conv=>whnf
 refine ak.c_ (F':=⟨fun w=>(By w h d∧By w k2 d2)∧aB w (some ⟨bb,0,none⟩) (bV (es.set q (last,n))),[]⟩) ?_ ?_
 · have hg:=Own.gives hO2 (D:=fun w=>By w h d∧By w k2 d2)
   exact hg
 have hsl:(es.set q (last,n)).length=es.length:=by simp
 have hesn : ∀ e∈es.set q (last,n),e.1.length≤14:=by
  intro e he
  rcases List.mem_or_eq_of_mem_set he with h5 | h5
  · exact hdn e h5
  · rw[h5]
    exact(je hlv).2
 have hec:=o_ (es.set q (last,n)) ⟨some ⟨bb,0,none⟩,cap⟩ (by rw[hsl];exact hOk) (by omega) hesn
 have hel:=kL hesn
 rw[hsl] at hec hel
 generalize il (es.set q (last,n))=data at *
 refine ak.pure hec (fun w hw=>hw.2) (fun v D hv=>?_)
 obtain⟨k3,rfl,hk3,rfl⟩:=hv
 conv=>whnf
 have hwr:=l5 d2 k2 hk2 (by omega) at0 0 rfl data k3 hk3 (by omega)
 generalize bQ d2 at0 data=wr at *
 obtain⟨d3,we⟩:=wr
 dsimp only at hM hwr
 refine ak.pure hwr (fun w hw=>⟨hw.1.1.2,hw.2⟩) (fun v D hv=>?_)
 rw[hM]
 rcases hv with⟨b4,c4,Z4,rfl,hc4,rfl⟩ | ⟨rfl,rfl,rfl⟩
 · conv=>whnf
   exact⟨⟨fun _=>True,[(b4,Row.c (d3.map ao++Z4))]⟩,aq.of_le ⟨by simp[Fx.and],fun w hw=>trivial⟩,.inl ⟨b4,c4,Z4,rfl,hc4,rfl⟩⟩
 · conv=>whnf
   exact xf
theorem iR (d:List UInt8) (h:Hd) (hh:h.Ok d.length) (hl:d.length≤1000000) (p:List UInt8) (hp:p.length≤200) (kind:Int) :
 af Tryz.prog 35 [h.v d.length,aC p,.int .i64 kind] (fun w=>By w h d) (qX (bE d p kind).1 (bE d p kind).2.1 (bE d p kind).2.2):=xL (uS d h hh hl p hp kind)
theorem k9 {d:List UInt8} {s:List UInt8} {m:Nat} : ∀ (a:List (List UInt8)) (n:Nat),aT d (a ++ [s]) n=(m,0)→
 ∃ at0 k,aT d a n=(at0,0)∧(cT d at0).2=0∧db (cT d at0).1 s=some k∧m=(((cT d at0).1[k]?.map (·.2)).getD 0)
 | [],n,h=>by
  rw[List.nil_append] at h
  unfold aT at h
  by_cases h1:(cT d n).2≠0
  · rw[if_pos h1] at h
    exact absurd (congrArg Prod.snd h) h1
  · rw[if_neg h1] at h
    cases hf:db (cT d n).1 s with
    | none=>rw[hf] at h;cases h
    | some k=>
     rw[hf] at h
     dsimp only at h
     unfold aT at h
     cases h
     exact⟨n,k,rfl,by omega,hf,rfl⟩
 | x::a,n,h=>by
  rw[List.cons_append] at h
  unfold aT at h
  by_cases h1:(cT d n).2≠0
  · rw[if_pos h1] at h
    exact absurd (congrArg Prod.snd h) h1
  · rw[if_neg h1] at h
    cases hf:db (cT d n).1 x with
    | none=>rw[hf] at h;cases h
    | some k=>
     rw[hf] at h
     dsimp only at h
     obtain⟨at0,k2,q1,q2⟩:=k9 a _ h
     refine⟨at0,k2,?_,q2⟩
     unfold aT
     rw[if_neg h1,hf]
     exact q1
noncomputable def dc (d:List UInt8) (p:List UInt8):List UInt8×Nat:=
 if aM d≠0 then ([],aM d) else
 if (aL p).2≠0 then ([],15) else
 if (aL p).1 = [] then ([],12) else
 if (aT d (aL p).1 0).2≠0 then ([],(aT d (aL p).1 0).2) else
 if (cT d (aT d (aL p).1 0).1).2=0∧∃ e∈(cT d (aT d (aL p).1 0).1).1,e.1≠[] then ([],12) else
 ey (bQ d (aT d (aL p).1.dropLast 0).1 (il ((cT d (aT d (aL p).1.dropLast 0).1).1.set ((db (cT d (aT d (aL p).1.dropLast 0).1).1 ((aL p).1.getLastD [])).getD 0) ([],0)))).1 (aT d (aL p).1 0).1
theorem yD (d:List UInt8) (n:Nat) (data:List UInt8):(bQ d n data).1.length≤1000000∨d.length>1000000:=by
 by_cases hdl:d.length>1000000
 · exact .inr hdl
 refine .inl ?_
 unfold bQ
 by_cases h:a7 d n≠0
 · rw[if_pos h]
   simp
 rw[if_neg h]
 obtain⟨hd,hok,m,hm,hm32,hrk⟩:=cd (show a7 d n=0 by omega)
 have hm:n=m:=by omega
 subst hm
 by_cases h2:data.length=0
 · rw[if_pos h2]
   show d.length≤_
   omega
 rw[if_neg h2]
 generalize (if rk d n=2 then 128 else 1536)=most
 by_cases h3:most<data.length
 · rw[if_pos h3]
   simp
 rw[if_neg h3]
 have hwl : ∀ (i:Nat) o b,wt d (rb d n) i=some (o,b)→o.length=12288:=by
  intro i
  induction i with
  | zero=>
   intro o b hw
   cases hw
   exact hd
  | succ i ih=>
   intro o b hw
   unfold wt at hw
   cases hq:wt d (rb d n) i with
   | none=>rw[hq] at hw;cases hw
   | some ob=>
    obtain⟨o',b'⟩:=ob
    rw[hq] at hw
    dsimp only at hw
    split at hw
    · cases hf:cI (bA o') with
      | none=>rw[hf] at hw;cases hw
      | some x=>
       rw[hf] at hw
       cases hw
       exact cY (ih _ _ hq) (dK hf).2
    · cases hw
      exact ih _ _ hq
 cases hw:wt d (rb d n) ((data.length+127)/128) with
 | none=>simp
 | some ob=>
  obtain⟨o,b⟩:=ob
  simp only
  have:=hwl _ _ _ hw
  rw[bf (by rw[ka];exact this) hm32]
  omega
theorem qU (d:List UInt8) (h:Hd) (hh:h.Ok d.length) (hl:d.length≤1000000) (p:List UInt8) (hp:p.length≤200) :
 af Tryz.prog 60 [h.v d.length,aC p] (fun w=>By w h d) (wi (dc d p).1 (dc d p).2):=by
 obtain⟨M,hM⟩ : ∃ x,x=dc d p:=⟨_,rfl⟩
 rw[← hM]
 unfold dc at hM
 refine af.aF ab Tryz.func60 rfl (by decide) (n:=Tryz.f60.ntmps - 2) rfl rfl fun w0 av=>?_
 conv=>whnf
 refine ak.val (eN d h hh hl) (fun w hw=>hw) (fun v D hv=>?_)
 generalize hch:aM d=e at hv hM
 subst hv
 conv=>whnf
 refine aH.split (fun he=>?_) (fun he=>?_)
 · have he':e≠0:=by
    simp[ar] at he
    omega
   rw[if_pos he'] at hM
   rw[hM]
   conv=>whnf
   exact dw
 have he':e=0:=by
  simp[ar] at he
  omega
 rw[if_neg (by omega)] at hM
 have hsm:=eK p hp
 have hse:=fv p
 have hsp:=ja p hp
 generalize aL p=sp at *
 obtain⟨names,se⟩:=sp
 dsimp only at hM hsm hse
 conv=>whnf
 refine ak.pure hsp (fun w hw=>trivial) (fun v D hv=>?_)
 obtain⟨kn,rfl,hkn,rfl⟩:=hv
 dsimp only at hkn ⊢
 conv=>whnf
 refine aH.split (fun hs=>?_) (fun hs=>?_)
 · have hs':se≠0:=by
    simpa [ar] using hs
   rw[if_pos hs'] at hM
   rw[hM]
   have:se=15:=(hse.resolve_left hs').1
   subst this
   conv=>whnf
   exact dw
 have hs':se=0:=by
  simpa [ar] using hs
 rw[if_neg (by omega)] at hM
 conv=>whnf
 refine aH.split (fun hn=>?_) (fun hn=>?_)
 · have hn':names = []:=by
    simp[aD] at hn
    exact hn
   rw[if_pos hn'] at hM
   rw[hM]
   conv=>whnf
   exact dw
 have hn':names≠[]:=by
  simp[aD] at hn
  exact hn
 rw[if_neg hn'] at hM
 have hlen:0<names.length:=List.length_pos_iff.2 hn'
 have hw1:IntKind.i64.wrap ((names.length:Int) - 1)=((names.length - 1:Nat):Int):=by
  rw[wrap_i64 (by omega)]
  omega
 have hlast:=eG hn'
 have hsnoc:names.take (names.length - 1) ++ [names.getLastD []]=names:=by
  have:=List.dropLast_concat_getLast hn'
  rw[List.dropLast_eq_take] at this
  rw[List.getLastD_eq_getLast?,List.getLast?_eq_some_getLast hn']
  exact this
 generalize names.getLastD []=last at *
 have hdl:names.dropLast=names.take (names.length - 1):=List.dropLast_eq_take
 rw[hdl] at hM
 have hfa:=iU d h hh hl kn names hkn (by omega)
 have hfs:=iU d h hh hl kn (names.take (names.length - 1)) ⟨fun h0=>by have:=hkn.nil h0;omega,by have:=hkn.cap;rw[List.length_take];omega⟩ (by rw[List.length_take];omega)
 rw[List.length_take,Nat.min_eq_left (by omega)] at hfs
 have hfsn:=fun m (hq:aT d names 0=(m,0))=>k9 (d:=d) (s:=last) (m:=m) (names.take (names.length - 1)) 0 (by rw[hsnoc];exact hq)
 generalize aT d names 0=fa at *
 obtain⟨n,ne⟩:=fa
 dsimp only at hM hfa
 conv=>whnf
 refine ak.val hfa (fun w hw=>hw) (fun v D hv=>?_)
 unfold fc at hv
 subst hv
 conv=>whnf
 refine aH.split (fun hf=>?_) (fun hf=>?_)
 · have hf':ne≠0:=by
    simp[ar] at hf
    omega
   rw[if_pos hf'] at hM
   rw[hM]
   conv=>whnf
   exact dw
 have hf':ne=0:=by
  simp[ar] at hf
  omega
 rw[if_neg (by omega)] at hM
 obtain⟨at0,q,g1,g2,g3,g4⟩:=hfsn n (by rw[hf'])
 rw[g1] at hM hfs
 dsimp only at hM hfs
 rw[g3] at hM
 have hds:=kf d n
 have hdp:=qK d h hh hl n
 have hds2:=kf d at0
 have hdn2:=rG d at0
 have hdp2:=n9 d h hh hl at0
 generalize cT d n=dr at *
 obtain⟨own,oe⟩:=dr
 generalize cT d at0=dr2 at *
 obtain⟨es,de⟩:=dr2
 dsimp only at hM hds hdp hds2 hdn2 hdp2 g2 g3 g4
 conv=>whnf
 refine ak.pure hdp (fun w hw=>hw.1) (fun v D hv=>?_)
 obtain⟨ko,rfl,hko,rfl⟩:=hv
 conv=>whnf
 refine aH.split (fun h0=>?pA) (fun h0=>?pB)
 case' pA=>
  have h0':oe=0:=by
   simp[aD] at h0
   omega
  conv=>whnf
  refine aI.loop ab (ι:=Nat) ([12]++List.range' 52 12) (fun x=>x≤own.length∧∀ j (hj:j<own.length),j<x→own[j].1 = [])
   (fun x=>[(12,.v (.int .i64 (x:Int)))]) (fun _=>[]) (fun x=>⟨fun w=>(By w h d∧b_ w kn names)∧aB w ko.a (bV own),[]⟩)
   (fun x=>own.length - x) 0 ⟨Nat.zero_le _,fun j hj h=>by omega⟩ ?_ rfl (aq.of_le ⟨by simp[Fx.and],fun w hw=>hw⟩) fun i hi=>?_
  · conv=>whnf
    repeat (first | exact aw.nil | refine aw.any ?_ | refine aw.cons ?_)
  obtain⟨hi,hall⟩:=hi
  conv=>whnf
  refine aH.split (fun hlt=>?_) (fun hlt=>?_)
  · have hlt':i<own.length:=by
     simp only[au,decide_eq_true_eq] at hlt
     omega
    conv=>whnf
    refine aj.ah (ai.index ab (t:=127) rfl rfl rfl (by omega) (by omega) hko.nil fun ad had=>?_)
    conv=>whnf
    refine aj.ah (ai.bS ab (t:=9) rfl rfl (ad:=ad) (k:=2*i) (L:=bV own) (v:=aC own[i].1) (.fact fun w hw=>had ▸ hw.2) (fun hs=>by rw[Addr.dE hs];congr 1;simp;try omega) (dz hlt').1 ?_)
    conv=>whnf
    refine aj.ah (ai.ph (l:=own[i].1) (m:=[]) ?_)
    conv=>whnf
    refine aH.split (fun hq=>?_) (fun hq=>?_)
    · have hq':own[i].1≠[]:=by simpa using hq
      rw[if_pos ⟨h0',_,List.getElem_mem hlt',hq'⟩] at hM
      rw[hM]
      conv=>whnf
      exact dw
    · have hq':own[i].1 = []:=by simpa using hq
      conv=>whnf
      refine⟨i+1,⟨⟨hlt',fun j hj h=>?_⟩,by dsimp only;omega⟩,?_,?_,aq.refl _⟩
      · rcases Nat.lt_or_eq_of_le (Nat.lt_succ_iff.1 h) with h5 | h5
        · exact hall j hj h5
        · subst h5
          exact hq'
      · conv=>whnf
        refine⟨?_,rfl⟩
        repeat (first | exact aw.nil | refine aw.any ?_ | refine aw.cons ?_ | refine aw.eq (by rw[wrap_i64 (by omega)];rfl) ?_)
      · conv=>whnf
        exact trivial
  have hie:i=own.length:=by
   simp only[au,decide_eq_false_iff_not] at hlt
   omega
  rw[if_neg (by
   rintro⟨_,e,he,hne⟩
   obtain⟨j,hj,rfl⟩:=List.getElem_of_mem he
   exact hne (hall j hj (by omega)))] at hM
  conv=>whnf
  refine aj.c_ (F':=⟨fun w=>By w h d∧b_ w kn names,[]⟩) (aq.of_le ⟨by simp,fun w hw=>hw.1⟩) ?_
 case' pB=>
  have h0':oe≠0:=by
   simp[aD] at h0
   omega
  rw[if_neg (fun h=>h0' h.1)] at hM
  conv=>whnf
  refine aj.c_ (F':=⟨fun w=>By w h d∧b_ w kn names,[]⟩) (aq.of_le ⟨by simp[Fx.and],fun w hw=>hw.1⟩) ?_
 all_goals
  refine aj.ah (ai.gA ab (t:=51) rfl rfl rfl (names.length - 1) hw1 (Nat.le_trans (by omega) hkn.cap) ?_)
  conv=>whnf
  refine ak.val hfs (fun w hw=>⟨hw.1,?_⟩) (fun v D hv=>?_)
  · have:=aB.take hw.2 (names.length - 1)
    unfold b_
    rw[List.map_take]
    exact this
  unfold fc at hv
  subst hv
  conv=>whnf
  refine ak.pure hdp2 (fun w hw=>hw.1) (fun v D hv=>?_)
  obtain⟨a,cap,C,rfl,hO,rfl⟩:=hv
  have hq:=fH g3
  obtain⟨bb,rfl⟩:=ij hO (by omega)
  have hOk:(⟨some ⟨bb,0,none⟩,cap⟩:Hd).Ok es.length:=⟨fun ha=>hO.e6 ha,hO.fit⟩
  obtain⟨hle,hO2⟩:=Own.DC hO hq rfl ([],0)
  conv=>whnf
  refine aj.ah (ai.index ab (t:=51) rfl rfl rfl (by rw[hw1];omega) (by rw[hw1];omega) hkn.nil fun ad had=>?_)
  conv=>whnf
  refine aj.ah (ai.load ab (t:=9) rfl rfl (ad:=ad) (k:=names.length - 1) (L:=names.map aC) (v:=aC last) (.fact fun w hw=>had ▸ hw.1.2) (by rw[hw1];simp) (by rw[List.getElem?_map,hlast];rfl) ?_)
  conv=>whnf
  refine ak.c_ (F':=⟨fun w=>By w h d,[]++aR (some ⟨bb,0,none⟩) C ++ []⟩) (aq.of_le ⟨by simp[Fx.and],fun w hw=>hw.1.1⟩) ?_
  refine ak.look (iQ es ⟨some ⟨bb,0,none⟩,cap⟩ hOk (by omega) last) (Loc.row _ _) (fun w hst=>hO.at hst) ?_
  rw[g3]
  obtain⟨z2,hz2⟩ : ∃ z:Int,z=ib (some q):=⟨_,rfl⟩
  rw[← hz2]
  have hz2:z2=(q:Int):=hz2
  conv=>whnf
  refine aj.ah (ai.index ab (t:=127) rfl rfl rfl (by omega) (by omega) (fun h=>by cases h) fun ad2 had2=>?_)
  cases had2
  conv=>whnf
  refine a_.c_ (F':=⟨fun w=>By w h d,[] ++ [(bb,Row.c C)] ++ []⟩) (aq.of_le ⟨by simp[aR],fun w hw=>hw⟩) ?_
  refine a_.cE ab (t:=132) rfl (r1:=[]) (r2:=[]) (b:=bb) (k:=2*q) (C:=C) (by rw[Addr.aV,hz2];simp;omega) rfl (by simp[Value.cells,aO]) hle ?_
  conv=>whnf
  refine ak.c_ (F':=⟨fun w=>By w h d∧aB w (some ⟨bb,0,none⟩) (bV (es.set q ([],0))),[]⟩) ?_ ?_
  · have hg:=Own.gives hO2 (D:=fun w=>By w h d)
    exact hg
  have hsl:(es.set q (([],0):En)).length=es.length:=by simp
  have hesn : ∀ e∈es.set q (([],0):En),e.1.length≤14:=by
   intro e he
   rcases List.mem_or_eq_of_mem_set he with h5 | h5
   · exact hdn2 e h5
   · rw[h5]
     simp
  have hec:=o_ (es.set q (([],0):En)) ⟨some ⟨bb,0,none⟩,cap⟩ (by rw[hsl];exact hOk) (by omega) hesn
  have hel:=kL hesn
  rw[hsl] at hec hel
  rw[Option.getD_some] at hM
  generalize il (es.set q (([],0):En))=data at *
  refine ak.pure hec (fun w hw=>hw.2) (fun v D hv=>?_)
  obtain⟨k3,rfl,hk3,rfl⟩:=hv
  conv=>whnf
  have hwr:=nz d h hh hl at0 0 rfl data k3 hk3 (by omega)
  have hwl:=(yD d at0 data).resolve_right (by omega)
  generalize bQ d at0 data=wr at *
  obtain⟨d3,we⟩:=wr
  dsimp only at hM hwr hwl
  refine ak.pure hwr (fun w hw=>⟨hw.1.1,hw.2⟩) (fun v D hv=>?_)
  obtain⟨k4,rfl,hk4,rfl⟩:=hv
  conv=>whnf
  have hfr:=uj d3 k4 hk4 (by omega) n
  rw[← hM] at hfr
  generalize M=MM at *
  obtain⟨d4,e4⟩:=MM
  dsimp only at hfr ⊢
  refine ak.pure hfr (fun w hw=>hw.2) (fun v D hv=>?_)
  rcases hv with⟨b5,c5,Z5,rfl,hc5,rfl⟩ | ⟨rfl,rfl,rfl⟩
  · conv=>whnf
    exact⟨⟨fun _=>True,[(b5,Row.c (d4.map ao++Z5))]⟩,aq.of_le ⟨by simp[Fx.and],fun w hw=>trivial⟩,.inl ⟨b5,c5,Z5,rfl,hc5,rfl⟩⟩
  · conv=>whnf
    exact dw
theorem so (d:List UInt8) (h:Hd) (hh:h.Ok d.length) (hl:d.length≤1000000) (p:List UInt8) (hp:p.length≤200) :
 af Tryz.prog 60 [h.v d.length,aC p] (fun w=>By w h d) (fJ (dc d p).1 (dc d p).2):=mb (qU d h hh hl p hp)
noncomputable def cA (d:List UInt8) (p:List UInt8):Nat×Nat:=
 if aM d≠0 then (0,aM d) else if (aL p).2≠0 then (0,15) else aT d (aL p).1 0
theorem oR (d:List UInt8) (h:Hd) (hh:h.Ok d.length) (hl:d.length≤1000000) (p:List UInt8) (hp:p.length≤200) :
 af Tryz.prog 106 [h.v d.length,aC p] (fun w=>By w h d) (fc (cA d p).1 (cA d p).2):=by
 obtain⟨M,hM⟩ : ∃ x,x=cA d p:=⟨_,rfl⟩
 rw[← hM]
 unfold cA at hM
 refine af.aF ab Tryz.func106 rfl (by decide) (n:=Tryz.f106.ntmps - 2) rfl rfl fun w0 av=>?_
 conv=>whnf
 refine ak.val (eN d h hh hl) (fun w hw=>hw) (fun v D hv=>?_)
 generalize hch:aM d=e at hv hM
 subst hv
 conv=>whnf
 refine aH.split (fun he=>?_) (fun he=>?_)
 · have he':e≠0:=by
    simp[ar] at he
    omega
   rw[if_pos he'] at hM
   rw[hM]
   conv=>whnf
   exact⟨_,aq.refl _,rfl⟩
 have he':e=0:=by
  simp[ar] at he
  omega
 rw[if_neg (by omega)] at hM
 have hsm:=eK p hp
 have hse:=fv p
 have hsp:=ja p hp
 generalize aL p=sp at *
 obtain⟨names,se⟩:=sp
 dsimp only at hM hsm hse
 conv=>whnf
 refine ak.pure hsp (fun w hw=>trivial) (fun v D hv=>?_)
 obtain⟨kn,rfl,hkn,rfl⟩:=hv
 dsimp only at hkn ⊢
 conv=>whnf
 refine aH.split (fun hs=>?_) (fun hs=>?_)
 · have hs':se≠0:=by
    simpa [ar] using hs
   rw[if_pos hs'] at hM
   rw[hM]
   have:se=15:=(hse.resolve_left hs').1
   subst this
   conv=>whnf
   exact⟨_,aq.refl _,rfl⟩
 have hs':se=0:=by
  simpa [ar] using hs
 rw[if_neg (by omega)] at hM
 have hfa:=iU d h hh hl kn names hkn (by omega)
 rw[← hM] at hfa
 generalize M=MM at *
 obtain⟨n,e3⟩:=MM
 dsimp only at hfa ⊢
 conv=>whnf
 refine ak.val hfa (fun w hw=>hw) (fun v D hv=>?_)
 unfold fc at hv
 subst hv
 conv=>whnf
 exact⟨_,aq.refl _,rfl⟩
def kU:List UInt8:=lay (List.replicate 128 0) 0 [82,70,83,49]
def od (d:List UInt8) (n:Nat):Prop:=gz (cut d (1792+16*n) 16)=true∨(rp d n=0∧tT d (rk d n) (rs d n) (rb d n) (used d n))
def kG (us:List Nat):Nat→List UInt8
 | 0=>List.replicate 128 0
 | n+1=>if n<18∨n∈us then cq (kG us n) n true else kG us n
theorem mS (us:List Nat) : ∀ n,(kG us n).length=128
 | 0=>by simp[kG]
 | n+1=>by
  unfold kG
  split
  · rw[bz,mS us n]
  · exact mS us n
structure Eo (d:List UInt8):Prop where
 super:cut d 0 128=kU
 slot : ∀ n,n<32→od d n
 bits:cut d 1664 128=kG (used d 32) 96
 root:rk d 0=2
noncomputable instance (d:List UInt8):Decidable (Eo d):=Classical.propDecidable _
noncomputable def sD (d:List UInt8):Nat:=if d.length=12288 then (if Eo d then 0 else 4) else 1
def ik (d:List UInt8):Nat→List Value
 | 0=>[]
 | n+1=>ik d n++bg (rk d n) (rs d n) (rb d n)
theorem gM (d:List UInt8) : ∀ n,(ik d n).length=14*n
 | 0=>rfl
 | n+1=>by
  unfold ik
  rw[List.length_append,gM d n]
  simp[bg]
  omega
def cU (d:List UInt8) (x y:Value) (n:Nat):List Value:=x::(ik d n++List.replicate (14*(32 - n)) (aE 0) ++ [y])
theorem tp (d:List UInt8) (x y:Value) {n:Nat} (hn:n≤32):(cU d x y n).length=450:=by
 simp[cU,gM]
 omega
theorem yT (d:List UInt8) (x y:Value) {n:Nat} (hn:n<32):laid (cU d x y n) (1+14*n) (bg (rk d n) (rs d n) (rb d n))=cU d x y (n+1):=by
 have hl:(bg (rk d n) (rs d n) (rb d n)).length=14:=rfl
 have hsplit:List.replicate (14*(32 - n)) (aE 0)=List.replicate 14 (aE 0)++List.replicate (14*(32 - (n+1))) (aE 0):=by
  rw[List.replicate_append_replicate]
  congr 1
  omega
 have e1:cU d x y n=(x::ik d n)++(List.replicate 14 (aE 0)++(List.replicate (14*(32 - (n+1))) (aE 0) ++ [y])):=by
  unfold cU
  rw[hsplit]
  simp
 have e2:cU d x y (n+1)=(x::ik d n)++(bg (rk d n) (rs d n) (rb d n)++(List.replicate (14*(32 - (n+1))) (aE 0) ++ [y])):=by
  unfold cU
  show x::(ik d n++bg _ _ _++_++_)=_
  simp
 have hp:(x::ik d n).length=1+14*n:=by
  rw[List.length_cons,gM]
  omega
 rw[e1,e2]
 unfold laid
 rw[hl,← hp,List.take_left,List.drop_append,List.drop_of_length_le (by omega),Nat.add_sub_cancel_left,List.nil_append,List.drop_append,List.drop_of_length_le (by simp)]
 simp
theorem nY {d:List UInt8} (hd:d.length=12288) {n:Nat} (hn:n<32) (h:gz (cut d (1792+16*n) 16)=true):rk d n=0∧rs d n=0∧(∀ i,i<12→rb d n i=0)∧rp d n=0:=by
 have hz:=e8.1 h
 rw[aZ (by omega)] at hz
 have hb : ∀ i,i<16→aJ d (1792+16*n+i)=0:=fun i hi=>by
  have:=hz i hi
  rwa [a8 (by omega) hi] at this
 refine⟨hb 0 (by omega),?_,fun i hi=>hb (3+i) (by omega),hb 15 (by omega)⟩
 unfold rs
 rw[hb 1 (by omega),hb 2 (by omega)]
theorem x5 (d:List UInt8) (x y:Value) {n:Nat} (hn:n<32) (h:rk d n=0∧rs d n=0∧∀ i,i<12→rb d n i=0):cU d x y n=cU d x y (n+1):=by
 have hsplit:List.replicate (14*(32 - n)) (aE 0)=List.replicate 14 (aE 0)++List.replicate (14*(32 - (n+1))) (aE 0):=by
  rw[List.replicate_append_replicate]
  congr 1
  omega
 have hi:bg (rk d n) (rs d n) (rb d n)=List.replicate 14 (aE 0):=by
  rw[h.1,h.2.1,gS (b':=fun _=>0) fun i hi=>h.2.2 i hi]
  rfl
 unfold cU
 rw[hsplit]
 show _=x::(ik d n++bg _ _ _++_++_)
 rw[hi]
 simp
theorem nZ (d:List UInt8) {n:Nat} (h : ∀ i,i<12→rb d n i=0):used d (n+1)=used d n:=by
 show used d n++part d n 12=_
 have:part d n 12 = []:=by
  unfold part
  rw[List.filter_eq_nil_iff]
  intro x hx
  obtain⟨i,hi,rfl⟩:=List.mem_map.1 hx
  simp[h i (List.mem_range.1 hi)]
 rw[this,List.append_nil]
theorem y0 (d:List UInt8) : ∀ n,(ik d (n+1))[0]? = some (aE (rk d 0))
 | 0=>rfl
 | n+1=>by
  show(ik d (n+1)++_)[0]? = _
  rw[List.getElem?_append_left (by rw[gM];omega)]
  exact y0 d n
theorem Ax (d:List UInt8) (x y:Value):(cU d x y 32)[1]? = some (aE (rk d 0)):=by
 unfold cU
 rw[List.getElem?_cons_succ,List.append_assoc,List.getElem?_append_left (by rw[gM];omega)]
 exact y0 d 31
theorem yp (d:List UInt8) (x y y':Value):laid (cU d x y 32) 449 [y']=cU d x y' 32:=by
 have e : ∀ z,cU d x z 32=(x::ik d 32) ++ [z]:=fun z=>by simp[cU]
 have hp:(x::ik d 32).length=449:=by rw[List.length_cons,gM]
 rw[e,e]
 unfold laid
 rw[← hp,List.take_left,List.drop_append,List.drop_of_length_le (by omega),Nat.add_sub_cancel_left]
 simp
def yF (d:List UInt8) (e:Nat) (v:Value) (F:Fx):Prop:=
 if e=0 then ∃ bd bv bb cap Z,v = .tuple #[.pointer (some ⟨bv,0,none⟩),.int .i64 (e:Int)]∧d.length≤cap∧
  F=⟨fun _=>True,[(bd,Row.c (d.map ao++Z)),(bv,Row.c (cU d (.slice (some ⟨bd,0,none⟩) d.length cap) (.slice (some ⟨bb,0,none⟩) 12 128) 32)),(bb,Row.c ((kG (used d 32) 96).map ao ++ []))]⟩
 else v = .tuple #[.pointer none,.int .i64 (e:Int)]∧F=⟨fun _=>True,[]⟩
theorem xy {d:List UInt8} {D:World→Prop} {rs:List (Nat×Row)} {e:Nat} (h:e≠0) : ∃ F',aq ⟨D,rs⟩ F'∧yF d e (.tuple #[.pointer none,.int .i64 (e:Int)]) F':=by
 refine⟨⟨fun _=>True,[]⟩,aq.bare fun _ _=>trivial,?_⟩
 unfold yF
 rw[if_neg h]
 exact⟨rfl,rfl⟩
theorem oM (d:List UInt8) (h:Hd) (hh:h.Ok d.length) (hl:d.length≤1000000):af Tryz.prog 121 [h.v d.length] (fun w=>By w h d) (yF d (sD d)):=by
 refine af.aF ab Tryz.func121 rfl (by decide) (n:=Tryz.f121.ntmps - 1) rfl rfl fun w0 av=>?_
 conv=>whnf
 refine aH.split (fun h1=>?_) (fun h1=>?_)
 · have hne:d.length≠12288:=by
    simp[ar] at h1
    omega
   have:sD d=1:=by
    unfold sD
    rw[if_neg hne]
   rw[this]
   conv=>whnf
   exact xy (by decide)
 have hd:d.length=12288:=by
  simp[ar] at h1
  omega
 have hbad : ∀ (D:World→Prop) (rs:List (Nat×Row)),¬ Eo d→∃ F',aq ⟨D,rs⟩ F'∧yF d (sD d) (.tuple #[.pointer none,.int .i64 4]) F':=fun D rs hn=>by
  have:sD d=4:=by
   unfold sD
   rw[if_pos hd,if_neg hn]
  rw[this]
  exact xy (by decide)
 conv=>whnf
 refine ak.pure (eE d h hh (by omega) hl) (fun w hw=>hw) (fun v D hv=>?_)
 obtain⟨bd,cap,Z,rfl,hcap,rfl⟩:=hv
 conv=>whnf
 refine aj.ah (ai.r8 ab (t:=105) rfl rfl ?_)
 conv=>whnf
 refine aj.ye fun bv=>?_
 conv=>whnf
 obtain⟨X,hX⟩ : ∃ X:Value,X = .slice (some ⟨bd,0,none⟩) d.length cap:=⟨_,rfl⟩
 refine aj.c_ (F':=⟨fun _=>True,[(bd,Row.c (d.map ao++Z)),(bv,Row.c (cU d X (.slice none 0 0) 0))]⟩) (aq.of_le ⟨by rw[hX];exact List.Sublist.refl _,fun w _=>trivial⟩) ?_
 have hVX : ∀ n y,(cU d X y n)[0]? = some (.slice (some ⟨bd,0,none⟩) d.length cap):=fun n y=>by rw[← hX];rfl
 have hok:(⟨some ⟨bd,0,none⟩,cap⟩:Hd).Ok d.length:=⟨fun h=>(by cases h),hcap⟩
 refine aj.ek ab (t:=23) rfl rfl rfl rfl rfl rfl 128 rfl rfl (by decide) (by decide) fun bs0=>?_
 conv=>whnf
 refine aj.lN ab (t:=23) rfl rfl rfl rfl (r1:=[(bd,Row.c (d.map ao++Z)),(bv,Row.c (cU d X (.slice none 0 0) 0))]) (r2:=[]) (b:=bs0) (k:=0) (l:=List.replicate 128 0) (m:=[82,70,83,49]) (Z:=[]) rfl (by decide) (by decide) ?_
 conv=>whnf
 refine ak.look (du bv _ ⟨some ⟨bd,0,none⟩,cap⟩ d.length (hVX 0 (.slice none 0 0)) hok hd 0 (by decide)) (Loc.row _ _) (fun w hst=>bp.row (by simp) w hst) ?_
 conv=>whnf
 have hsl:kU.length=128:=by decide
 have hcl:(cut d (128*0) 128).length=128:=aZ (by omega)
 have heq:=re (cut d (128*0) 128) kU (Hd.sub ⟨some ⟨bd,0,none⟩,cap⟩ (128*0)) ⟨some ⟨bs0,0,none⟩,128⟩ (by rw[hcl];exact Hd.eu hok (by omega)) (by rw[hsl];exact⟨fun h=>(by cases h),Nat.le_refl _⟩)
 rw[hcl,hsl] at heq
 refine ak.look heq (Loc.and (Loc.row _ _) (Loc.row _ _)) (fun w hst=>⟨?_,?_⟩) ?_
 · exact By.sub (bp.bytes (Z:=Z) (by simp) w hst) (by dsimp only;omega)
 · exact bp.bytes (Z:=[]) (by simp[kU]) w hst
 generalize hsq:(cut d (128*0) 128 == kU)=sq
 cases sq
 · conv=>whnf
   exact hbad _ _ fun ho=>by
    have:=ho.super
    rw[show 128*0=0 from rfl,this] at hsq
    simp at hsq
 have hsup:cut d 0 128=kU:=by simpa using hsq
 conv=>whnf
 refine aj.c_ (F':=⟨fun _=>True,[(bd,Row.c (d.map ao++Z)),(bv,Row.c (cU d X (.slice none 0 0) 0))]⟩) (aq.of_le ⟨by simp,fun w _=>trivial⟩) ?_
 refine aj.kY fun bm=>?_
 conv=>whnf
 refine aI.loop ab (ι:=Nat) ([7,8,9]++List.range' 28 28) (fun n=>n≤32∧(∀ m,m<n→od d m)∧(used d n).Nodup)
  (fun n=>[(28,.v (.int .i64 (n:Int)))]) (fun _=>[]) (fun n=>⟨fun _=>True,[(bd,Row.c (d.map ao++Z)),(bv,Row.c (cU d X (.slice none 0 0) n))] ++ [(bm,Row.m (bF (bq (used d n))) (bq (used d n)).length)] ++ []⟩)
  (fun n=>32 - n) 0 ⟨Nat.zero_le _,fun m hm=>by omega,List.nodup_nil⟩ ?_ rfl (aq.refl _) fun n hn=>?_
 · conv=>whnf
   repeat (first | exact aw.nil | refine aw.any ?_ | refine aw.cons ?_)
 obtain⟨hn,hall,hnd⟩:=hn
 conv=>whnf
 refine aH.split (fun hlt=>?_) (fun hlt=>?_)
 · have hlt':n<32:=by
    simp only[au,decide_eq_true_eq] at hlt
    omega
   have hok16:(Hd.sub ⟨some ⟨bd,0,none⟩,cap⟩ (1792+16*n)).Ok 16:=Hd.eu hok (by omega)
   have hc16:(cut d (1792+16*n) 16).length=16:=aZ (by omega)
   have hzs:=tC (cut d (1792+16*n) 16) (Hd.sub ⟨some ⟨bd,0,none⟩,cap⟩ (1792+16*n)) (by rw[hc16];exact hok16) (by omega)
   have hps:=x6 (cut d (1792+16*n) 16) (Hd.sub ⟨some ⟨bd,0,none⟩,cap⟩ (1792+16*n)) (by rw[hc16];exact hok16) hc16
   rw[hc16] at hzs hps
   have hino:bg (aJ (cut d (1792+16*n) 16) 0) (256*aJ (cut d (1792+16*n) 16) 1+aJ (cut d (1792+16*n) 16) 2) (fun i=>aJ (cut d (1792+16*n) 16) (3+i))=bg (rk d n) (rs d n) (rb d n):=by
    rw[a8 (by omega) (by omega),a8 (by omega) (by omega),a8 (by omega) (by omega)]
    rw[gS (b':=rb d n) fun i hi=>by rw[a8 (by omega) (by omega)];rfl]
    rfl
   rw[hino] at hps
   conv=>whnf
   refine ak.look (rF bv _ ⟨some ⟨bd,0,none⟩,cap⟩ d.length (hVX n (.slice none 0 0)) hok hd n hlt') (Loc.row _ _) (fun w hst=>bp.row (by simp) w hst) ?_
   conv=>whnf
   refine ak.look hzs (Loc.row _ _) (fun w hst=>By.sub (bp.bytes (Z:=Z) (by simp) w hst) (by dsimp only;omega)) ?_
   generalize hz:gz (cut d (1792+16*n) 16)=cz
   cases cz
   rotate_left
   · obtain⟨z1,z2,z3,z4⟩:=nY hd hlt' hz
     conv=>whnf
     refine⟨n+1,⟨⟨hlt',fun m hm=>?_,by rw[nZ d z3];exact hnd⟩,by dsimp only;omega⟩,?_,?_,?_⟩
     · rcases Nat.lt_or_eq_of_le (Nat.lt_succ_iff.1 hm) with h5 | h5
       · exact hall m h5
       · rw[h5];exact .inl hz
     · conv=>whnf
       refine⟨?_,rfl⟩
       repeat (first | exact aw.nil | refine aw.any ?_ | refine aw.cons ?_ | refine aw.eq (by rw[wrap_i64 (by omega)];rfl) ?_)
     · conv=>whnf
       exact trivial
     · dsimp only
       rw[nZ d z3,← x5 d X (.slice none 0 0) hlt' ⟨z1,z2,z3⟩]
       exact aq.refl _
   conv=>whnf
   refine ak.look hps (Loc.row _ _) (fun w hst=>By.sub (bp.bytes (Z:=Z) (by simp) w hst) (by dsimp only;omega)) ?_
   conv=>whnf
   intro b9
   conv=>whnf
   refine aj.ah (ai.cL ab (t:=23) rfl rfl rfl rfl 15 rfl (by decide) hok16 fun ad had=>?_)
   conv=>whnf
   refine aj.ah (ai.cy ab (t:=5) rfl rfl had (l:=cut d (1792+16*n) 16) (fun w hst=>By.sub (bp.bytes (Z:=Z) (by simp) w hst) (by dsimp only;omega)) rfl (by omega) ?_)
   rw[a8 (show 1792+16*n+16≤d.length by omega) (show 15<16 by omega)]
   conv=>whnf
   repeat (refine aa.of ?_;conv=>whnf)
   generalize hp:iZ (aJ d (1792+16*n+15):Int) 0=cp
   cases cp
   rotate_left
   · conv=>whnf
     repeat (refine aa.of ?_;conv=>whnf)
     repeat' (first
      | (refine aH.yes rfl ?_;conv=>whnf)
      | (refine aH.no rfl ?_;conv=>whnf))
     exact hbad _ _ fun ho=>by
      rcases ho.slot n hlt' with h5 | h5
      · rw[hz] at h5
        cases h5
      · have:=h5.1
        unfold rp at this
        rw[this] at hp
        simp[ar] at hp
   have hp':rp d n=0:=by
    unfold rp
    simp[ar] at hp
    omega
   have hsl:=vR d n
   have hbl:=pn d n
   conv=>whnf
   repeat (refine aa.of ?_;conv=>whnf)
   refine xp (k:=rk d n) (s:=rs d n) (b:=rb d n) (us:=used d n) hd hcap (hVX n (.slice none 0 0)) (by omega) (fun i=>by have:=hbl i;omega) hnd (fun hP=>?_) (fun hP vs=>?_)
   · have hu:used d n++prt (rb d n) 12=used d (n+1):=rfl
     rw[hu]
     have hnd2:(used d (n+1)).Nodup:=hP.nodup
     have hS:od d n:=.inr ⟨hp',hP⟩
     have hvn:=yT d X (.slice none 0 0) hlt'
     have hvl:=tp d X (.slice none 0 0) (show n≤32 by omega)
     conv=>whnf
     repeat (refine aa.of ?_;conv=>whnf)
     repeat' (first
      | (refine aH.no rfl ?_;conv=>whnf)
      | (refine aH.yes rfl ?_;conv=>whnf))
     refine aI.draw ab mixed rfl rfl ?_
     conv=>whnf
     repeat' (first
      | (refine And.intro ?_ ?_<;>conv=>whnf)
      | (refine ax.same rfl ?_;conv=>whnf)
      | (refine ax.row rfl ?_;conv=>whnf)
      | (refine ax.call rfl ?_;conv=>whnf)
      | (refine bG.of ?_;conv=>whnf)
      | (refine aa.of ?_;conv=>whnf)
      | (refine ai.dk ab (t:=103) rfl rfl rfl n rfl hlt' rfl ?_;conv=>whnf)
      | (refine ax.mk ?_ ?_;(focus (first | exact aq.refl _ | exact aq.left _ _ | exact aq.of_le ⟨List.sublist_append_left _ _,fun w h=>h⟩ | exact aq.of_le ⟨List.Sublist.refl _,fun w h=>h.1⟩));conv=>whnf))
     refine a_.cE ab (t:=82) rfl (r1:=[(bd,Row.c (d.map ao++Z))]) (r2:=[(bm,Row.m (bF (bq (used d (n+1)))) (bq (used d (n+1))).length)]) (b:=bv) (k:=1+14*n) (C:=cU d X (.slice none 0 0) n) (v:=.agg ⟨bg (rk d n) (rs d n) (rb d n)⟩) (by show(Addr.add ⟨bv,0,none⟩ 1).add (n*14)=_;simp only[Addr.aV];rw[Nat.zero_add,Nat.mul_comm]) rfl (by simp[Value.cells,bg,aE,aO]) (by rw[hvl];show _+14≤_;omega) ?_
     rw[show laid (cU d X (.slice none 0 0) n) (1+14*n) (Value.agg ⟨bg (rk d n) (rs d n) (rb d n)⟩).cells.toList=cU d X (.slice none 0 0) (n+1) from hvn]
     conv=>whnf
     repeat (refine aa.of ?_;conv=>whnf)
     refine⟨n+1,⟨⟨hlt',fun m hm=>?_,hnd2⟩,by dsimp only;omega⟩,?_,?_,?_⟩
     · rcases Nat.lt_or_eq_of_le (Nat.lt_succ_iff.1 hm) with h5 | h5
       · exact hall m h5
       · rw[h5];exact hS
     · conv=>whnf
       refine⟨?_,rfl⟩
       repeat (first | exact aw.nil | refine aw.any ?_ | refine aw.cons ?_ | refine aw.eq (by rw[wrap_i64 (by omega)];rfl) ?_)
     · conv=>whnf
       exact trivial
     · exact aq.refl _
   · conv=>whnf
     repeat (refine aa.of ?_;conv=>whnf)
     repeat' (first
      | (refine aH.yes rfl ?_;conv=>whnf)
      | (refine aH.no rfl ?_;conv=>whnf))
     exact hbad _ _ fun ho=>by
      rcases ho.slot n hlt' with h5 | h5
      · rw[hz] at h5
        cases h5
      · exact hP h5.2
 · have hie:n=32:=by
    simp only[au,decide_eq_false_iff_not] at hlt
    omega
   subst hie
   conv=>whnf
   refine aj.ek ab (t:=23) rfl rfl rfl rfl rfl rfl 128 rfl rfl (by decide) (by decide) fun bb=>?_
   conv=>whnf
   have hus : ∀ n,(kG (used d 32) n).length=128:=mS _
   generalize hu:used d 32=us at *
   refine aI.loop ab (ι:=Nat) ([11]++List.range' 57 21) (fun n=>n≤96)
    (fun n=>[(57,.v (.int .i64 (n:Int)))]) (fun _=>[]) (fun n=>⟨fun _=>True,[(bd,Row.c (d.map ao++Z)),(bv,Row.c (cU d X (.slice none 0 0) 32))] ++ [(bm,Row.m (bF (bq us)) (bq us).length)] ++ [(bb,Row.c ((kG us n).map ao ++ []))]⟩)
    (fun n=>96 - n) 0 (Nat.zero_le _) ?_ rfl (aq.refl _) fun n hn=>?_
   · conv=>whnf
     repeat (first | exact aw.nil | refine aw.any ?_ | refine aw.cons ?_)
   conv=>whnf
   refine aH.split (fun hlt2=>?_) (fun hlt2=>?_)
   · have hlt':n<96:=by
      simp only[au,decide_eq_true_eq] at hlt2
      omega
     have hw:IntKind.i64.wrap (Int.tdiv (n:Int) (Int.ofNat 8))=((n/8:Nat):Int):=kI n 8 (by omega)
     have hm:Int.tmod (n:Int) (Int.ofNat 8)=((n%8:Nat):Int):=dL n 8
     have h8:n%8<8:=Nat.mod_lt _ (by decide)
     have hbl:=hus n
     conv=>whnf
     repeat (refine aa.of ?_;conv=>whnf)
     generalize hc:mL (n:Int) 18=c
     by_cases hq:n<18∨n∈us
     · have hb1:kG us (n+1)=cq (kG us n) n true:=if_pos hq
       cases c
       · have hmem:n∈us:=by
          simp only[au,decide_eq_false_iff_not] at hc
          rcases hq with h5 | h5
          · omega
          · exact h5
         conv=>whnf
         repeat (refine aa.of ?_;conv=>whnf)
         refine aj.ah (ai.eg ab (t:=182) rfl rfl rfl rfl (df.row (by simp)) rfl (ed us) (v:=.bool true) jV ⟨(aE n,.bool true),List.mem_map.2 ⟨_,hmem,rfl⟩,rfl⟩ ?_)
         conv=>whnf
         repeat (refine aa.of ?_;conv=>whnf)
         refine aI.draw ab mixed rfl rfl ?_
         conv=>whnf
         repeat' (first
          | (refine And.intro ?_ ?_<;>conv=>whnf)
          | (refine ax.same rfl ?_;conv=>whnf)
          | (refine ax.row rfl ?_;conv=>whnf)
          | (refine ax.call rfl ?_;conv=>whnf)
          | (refine bG.of ?_;conv=>whnf)
          | (refine aa.of ?_;conv=>whnf)
          | (refine ai.jf ab (t:=23) rfl rfl rfl rfl (n/8) hw (by omega) ?_;conv=>whnf)
          | (refine ai.sM ab (t:=5) rfl rfl (l:=kG us n) (bp.bytes (Z:=[]) (by simp)) (by omega) ?_;conv=>whnf)
          | (refine ai.shl (j:=n%8) hm (by show n%8≤8;omega) ?_;conv=>whnf)
          | (refine a_.cC ab (t:=5) rfl rfl (r1:=[(bd,Row.c (d.map ao++Z)),(bv,Row.c (cU d X (.slice none 0 0) 32)),(bm,Row.m (bF (bq us)) (bq us).length)]) (r2:=[]) (l:=kG us n) (Z:=[]) (s_ (aJ (kG us n) (n/8)) (n%8)) rfl (uP (bJ _ _) h8) (qo (bJ _ _) h8) (by omega) ?_;conv=>whnf)
          | (refine ax.mk ?_ ?_;(focus (first | exact aq.refl _ | exact aq.left _ _ | exact aq.of_le ⟨List.sublist_append_left _ _,fun w h=>h⟩ | exact aq.of_le ⟨List.Sublist.refl _,fun w h=>h.1⟩));conv=>whnf))
         rw[show dm (kG us n) (n/8) (s_ (aJ (kG us n) (n/8)) (n%8))=kG us (n+1) from hb1.symm]
         conv=>whnf
         repeat (refine aa.of ?_;conv=>whnf)
         refine⟨n+1,⟨hlt',by dsimp only;omega⟩,?_,?_,?_⟩
         · conv=>whnf
           refine⟨?_,rfl⟩
           repeat (first | exact aw.nil | refine aw.any ?_ | refine aw.cons ?_ | refine aw.eq (by rw[wrap_i64 (by omega)];rfl) ?_)
         · conv=>whnf
           exact trivial
         · exact aq.refl _
       · conv=>whnf
         repeat (refine aa.of ?_;conv=>whnf)
         refine aI.draw ab mixed rfl rfl ?_
         conv=>whnf
         repeat' (first
          | (refine And.intro ?_ ?_<;>conv=>whnf)
          | (refine ax.same rfl ?_;conv=>whnf)
          | (refine ax.row rfl ?_;conv=>whnf)
          | (refine ax.call rfl ?_;conv=>whnf)
          | (refine bG.of ?_;conv=>whnf)
          | (refine aa.of ?_;conv=>whnf)
          | (refine ai.jf ab (t:=23) rfl rfl rfl rfl (n/8) hw (by omega) ?_;conv=>whnf)
          | (refine ai.sM ab (t:=5) rfl rfl (l:=kG us n) (bp.bytes (Z:=[]) (by simp)) (by omega) ?_;conv=>whnf)
          | (refine ai.shl (j:=n%8) hm (by show n%8≤8;omega) ?_;conv=>whnf)
          | (refine a_.cC ab (t:=5) rfl rfl (r1:=[(bd,Row.c (d.map ao++Z)),(bv,Row.c (cU d X (.slice none 0 0) 32)),(bm,Row.m (bF (bq us)) (bq us).length)]) (r2:=[]) (l:=kG us n) (Z:=[]) (s_ (aJ (kG us n) (n/8)) (n%8)) rfl (uP (bJ _ _) h8) (qo (bJ _ _) h8) (by omega) ?_;conv=>whnf)
          | (refine ax.mk ?_ ?_;(focus (first | exact aq.refl _ | exact aq.left _ _ | exact aq.of_le ⟨List.sublist_append_left _ _,fun w h=>h⟩ | exact aq.of_le ⟨List.Sublist.refl _,fun w h=>h.1⟩));conv=>whnf))
         rw[show dm (kG us n) (n/8) (s_ (aJ (kG us n) (n/8)) (n%8))=kG us (n+1) from hb1.symm]
         conv=>whnf
         repeat (refine aa.of ?_;conv=>whnf)
         refine⟨n+1,⟨hlt',by dsimp only;omega⟩,?_,?_,?_⟩
         · conv=>whnf
           refine⟨?_,rfl⟩
           repeat (first | exact aw.nil | refine aw.any ?_ | refine aw.cons ?_ | refine aw.eq (by rw[wrap_i64 (by omega)];rfl) ?_)
         · conv=>whnf
           exact trivial
         · exact aq.refl _
     · have hb1:kG us (n+1)=kG us n:=if_neg hq
       have hmem:n ∉ us:=fun h=>hq (.inr h)
       cases c
       rotate_left
       · exfalso
         simp only[au,decide_eq_true_eq] at hc
         omega
       conv=>whnf
       repeat (refine aa.of ?_;conv=>whnf)
       refine aj.ah (ai.iD ab (t:=182) rfl rfl rfl rfl (df.row (by simp)) rfl (ed us) (jI hmem) (z:=.bool false) rfl ?_)
       conv=>whnf
       repeat (refine aa.of ?_;conv=>whnf)
       refine⟨n+1,⟨hlt',by dsimp only;omega⟩,?_,?_,?_⟩
       · conv=>whnf
         refine⟨?_,rfl⟩
         repeat (first | exact aw.nil | refine aw.any ?_ | refine aw.cons ?_ | refine aw.eq (by rw[wrap_i64 (by omega)];rfl) ?_)
       · conv=>whnf
         exact trivial
       · dsimp only
         rw[hb1]
         exact aq.refl _
   · have hie:n=96:=by
      simp only[au,decide_eq_false_iff_not] at hlt2
      omega
     subst hie
     have hbl:=hus 96
     have hvl:=tp d X (.slice none 0 0) (Nat.le_refl 32)
     conv=>whnf
     refine ak.look (du bv _ ⟨some ⟨bd,0,none⟩,cap⟩ d.length (hVX 32 (.slice none 0 0)) hok hd 13 (by decide)) (Loc.row _ _) (fun w hst=>bp.row (by simp) w hst) ?_
     conv=>whnf
     have hcl2:(cut d (128*13) 128).length=128:=aZ (by omega)
     have heq2:=re (cut d (128*13) 128) (kG us 96) (Hd.sub ⟨some ⟨bd,0,none⟩,cap⟩ (128*13)) ⟨some ⟨bb,0,none⟩,128⟩ (by rw[hcl2];exact Hd.eu hok (by omega)) (by rw[hbl];exact⟨fun h=>(by cases h),Nat.le_refl _⟩)
     rw[hcl2,hbl] at heq2
     refine ak.look heq2 (Loc.and (Loc.row _ _) (Loc.row _ _)) (fun w hst=>⟨?_,?_⟩) ?_
     · exact By.sub (bp.bytes (Z:=Z) (by simp) w hst) (by dsimp only;omega)
     · exact bp.bytes (Z:=[]) (by simp) w hst
     generalize hsq2:(cut d (128*13) 128 == kG us 96)=sq2
     cases sq2
     · conv=>whnf
       repeat (refine aa.of ?_;conv=>whnf)
       repeat' (first
        | (refine aH.yes rfl ?_;conv=>whnf))
       exact hbad _ _ fun ho=>by
        have:=ho.bits
        rw[show 128*13=1664 from rfl,this,hu] at hsq2
        simp at hsq2
     have hbits:cut d 1664 128=kG us 96:=by simpa using hsq2
     have hv1 : ∀ y,(cU d X y 32)[1]? = some (aE (rk d 0)):=fun y=>Ax d X y
     conv=>whnf
     repeat (refine aa.of ?_;conv=>whnf)
     refine aj.ah (ai.dk ab (t:=103) rfl rfl rfl 0 rfl (by decide) rfl ?_)
     conv=>whnf
     repeat (refine aa.of ?_;conv=>whnf)
     refine aj.ah (ai.bS ab (t:=3) rfl rfl (ad:=⟨bv,0,none⟩) (k:=1) (L:=cU d X (.slice none 0 0) 32) (v:=aE (rk d 0)) (bp.row (by simp)) (fun _=>rfl) (hv1 _) ?_)
     conv=>whnf
     repeat (refine aa.of ?_;conv=>whnf)
     generalize hk2:iZ (rk d 0:Int) 2=ck
     cases ck
     rotate_left
     · conv=>whnf
       repeat (refine aa.of ?_;conv=>whnf)
       repeat' (first
        | (refine aH.yes rfl ?_;conv=>whnf))
       exact hbad _ _ fun ho=>by
        have:=ho.root
        rw[this] at hk2
        simp[ar] at hk2
     have hroot:rk d 0=2:=by
      simp[ar] at hk2
      omega
     conv=>whnf
     repeat (refine aa.of ?_;conv=>whnf)
     refine aj.ah (ai.gA ab (t:=23) rfl rfl rfl (h:=⟨some ⟨bb,0,none⟩,128⟩) (n:=128) 12 rfl (show 12≤128 by decide) ?_)
     conv=>whnf
     repeat (refine aa.of ?_;conv=>whnf)
     refine a_.cE ab (t:=23) rfl (r1:=[(bd,Row.c (d.map ao++Z))]) (r2:=[(bm,Row.m (bF (bq us)) (bq us).length),(bb,Row.c ((kG us 96).map ao ++ []))]) (b:=bv) (k:=449) (C:=cU d X (.slice none 0 0) 32) (v:=.slice (some ⟨bb,0,none⟩) 12 128) (by rw[Addr.aV]) rfl (by simp[Value.cells,aO]) (by rw[hvl];decide) ?_
     rw[show laid (cU d X (.slice none 0 0) 32) 449 (Value.slice (some ⟨bb,0,none⟩) 12 128).cells.toList=cU d X (.slice (some ⟨bb,0,none⟩) 12 128) 32 from yp ..]
     have hOk:Eo d:=⟨hsup,hall,by rw[hu];exact hbits,hroot⟩
     have hch:sD d=0:=by
      unfold sD
      rw[if_pos hd,if_pos hOk]
     rw[hch]
     generalize hV:cU d X (.slice (some ⟨bb,0,none⟩) 12 128) 32=V at *
     conv=>whnf
     repeat (refine aa.of ?_;conv=>whnf)
     refine⟨⟨fun _=>True,[(bd,Row.c (d.map ao++Z)),(bv,Row.c V),(bb,Row.c ((kG us 96).map ao ++ []))]⟩,aq.of_le ⟨?_,fun w _=>trivial⟩,?_⟩
     · exact .cons_cons _ (.cons_cons _ (.cons _ (List.Sublist.refl _)))
     · unfold yF
       rw[if_pos rfl]
       exact⟨bd,bv,bb,cap,Z,rfl,hcap,by rw[← hX,hu,hV]⟩
theorem zD {d:List UInt8} {s:Nat} {b:Nat→Nat} (hs:s≤1536) :
 (∀ j,j<12→b j≠0→rW d s j (b j))↔(∀ i,i<12→b i≠0→18≤b i∧b i<96∧i*128<s)∧jA d s b=true:=by
 unfold rW jA
 simp only[Bool.or_eq_true,decide_eq_true_eq]
 constructor
 · intro h
   refine⟨fun i hi h0=>?_,?_⟩
   · obtain⟨h1,h2,h3,-⟩:=h i hi h0
     exact⟨h2,h3,by omega⟩
   · by_cases h1:s%128=0
     · exact .inl h1
     by_cases h2:b (s/128)=0
     · exact .inr (.inl h2)
     have h3:=(h (s/128) (by omega) h2).2.2.2 (by omega)
     rw[show s - 128*(s/128)=s%128 by omega] at h3
     exact .inr (.inr h3)
 · rintro⟨h1,h2⟩ j hj h0
   obtain⟨h3,h4,h5⟩:=h1 j hj h0
   refine⟨by omega,h3,h4,fun h6=>?_⟩
   have h7:s/128=j:=by omega
   have h8:s%128=s - 128*j:=by omega
   rw[h7,h8] at h2
   rcases h2 with h2 | h2 | h2
   · omega
   · exact absurd h2 h0
   · exact h2
theorem wD {d:List UInt8} (hd:d.length=12288) {n:Nat} (hn:n<32) (h0:n=0→rk d n=2) (hu:(used d (n+1)).Nodup):od d n↔cH d n=true:=by
 unfold od cH
 rw[Bool.and_eq_true,decide_eq_true_eq]
 constructor
 · rintro(h | ⟨h1,h2⟩)
   · obtain⟨z1,z2,z3,z4⟩:=nY hd hn h
     have hz:jB (rk d n) (rs d n) (rb d n)=true:=cW.2 ⟨z1,z2,z3⟩
     refine⟨z4,?_⟩
     rw[if_pos hz,decide_eq_true_eq]
     intro h5
     have:=h0 h5
     omega
   · refine⟨h1,?_⟩
     have hk:=h2.kind
     have hz : ¬ jB (rk d n) (rs d n) (rb d n)=true:=fun h=>by
      have:=(cW.1 h).1
      omega
     rw[if_neg hz,decide_eq_true_eq]
     obtain⟨g1,g2⟩:=(zD h2.size).1 h2.blk
     refine⟨hk,h2.size,h0,g1,g2,?_⟩
     rcases h2.dir with h5 | h5
     · exact .inl (by omega)
     · exact .inr h5
 · rintro⟨h1,h2⟩
   by_cases hz:jB (rk d n) (rs d n) (rb d n)=true
   · refine .inl (e8.2 ?_)
     obtain⟨z1,z2,z3⟩:=cW.1 hz
     rw[aZ (by omega)]
     intro i hi
     rw[a8 (by omega) hi]
     unfold rk at z1
     unfold rs at z2
     unfold rp at h1
     by_cases e0:i=0
     · subst e0;exact z1
     by_cases e1:i=1
     · subst e1;omega
     by_cases e2:i=2
     · subst e2;omega
     by_cases e3:i=15
     · subst e3;exact h1
     have:=z3 (i - 3) (by omega)
     unfold rb at this
     rw[show 1792+16*n+(3+(i - 3))=1792+16*n+i by omega] at this
     exact this
   · rw[if_neg hz,decide_eq_true_eq] at h2
     obtain⟨g1,g2,g3,g4,g5,g6⟩:=h2
     refine .inr ⟨h1,g1,g2,(zD g2).2 ⟨g4,g5⟩,hu,?_⟩
     rcases g6 with h5 | h5
     · exact .inl (by omega)
     · exact .inr h5
theorem xE {a b:List UInt8} (hl:a.length=b.length) (h : ∀ j,da a j=da b j):a=b:=by
 refine List.ext_getElem hl fun k h1 h2=>?_
 have hx:=bJ a k
 have hy:=bJ b k
 have hb : ∀ j,j<8→(aJ a k/2 ^ j%2=1↔aJ b k/2 ^ j%2=1):=fun j hj=>by
  have:=h (8*k+j)
  unfold da at this
  rw[show(8*k+j)/8=k by omega,show(8*k+j)%8=j by omega,decide_eq_true h1,decide_eq_true h2,Bool.true_and,Bool.true_and,decide_eq_decide] at this
  exact this
 have he:aJ a k=aJ b k:=by
  refine Nat.eq_of_testBit_eq fun i=>?_
  by_cases hi:i<8
  · rw[Nat.testBit_eq_decide_div_mod_eq,Nat.testBit_eq_decide_div_mod_eq,decide_eq_decide]
    exact hb i hi
  · have h8:2 ^ 8≤2 ^ i:=Nat.pow_le_pow_right (by decide) (by omega)
    rw[Nat.testBit_lt_two_pow (by omega),Nat.testBit_lt_two_pow (by omega)]
 unfold aJ at he
 simp only[List.getD_eq_getElem?_getD,List.getElem?_eq_getElem h1,List.getElem?_eq_getElem h2,Option.getD_some] at he
 exact UInt8.toNat_inj.1 he
theorem qV (m j:Nat):da (List.replicate m 0) j=false:=by
 unfold da
 by_cases h:j/8<m
 · have:aJ (List.replicate m 0) (j/8)=0:=by
    unfold aJ
    simp[h]
   rw[this]
   simp
 · simp[h]
theorem vE (us:List Nat) (j:Nat) : ∀ n,n≤96→da (kG us n) j=decide (j<n∧(j<18∨j∈us))
 | 0,_=>by
  rw[show kG us 0=List.replicate 128 0 from rfl,qV]
  simp
 | n+1,hn=>by
  have ih:=vE us j n (by omega)
  unfold kG
  split
  · rename_i h
    rw[kZ true (by rw[mS];omega),ih]
    by_cases hj:j=n
    · subst hj
      simp[h]
    · rw[if_neg hj,decide_eq_decide]
      have:j<n↔j<n+1:=by omega
      rw[this]
  · rename_i h
    rw[ih,decide_eq_decide]
    constructor
    · rintro⟨h1,h2⟩
      exact⟨by omega,h2⟩
    · rintro⟨h1,h2⟩
      refine⟨?_,h2⟩
      rcases Nat.lt_or_eq_of_le (Nat.lt_succ_iff.1 h1) with h5 | h5
      · exact h5
      · subst h5
        exact absurd h2 h
theorem BH (us:List Nat) (h : ∀ i∈us,i<96):kG us 96=bZ (List.range 18++us)++List.replicate 116 0:=by
 have hw:=bu (List.range 18++us)
 refine xE (by rw[mS,List.length_append,hw,List.length_replicate]) fun j=>?_
 have hl : ∀ i∈List.range 18++us,i<96:=fun i hi=>by
  rcases List.mem_append.1 hi with h5 | h5
  · have:=List.mem_range.1 h5
    omega
  · exact h i h5
 have h1:=gU hl j
 rw[vE us j 96 (Nat.le_refl _)]
 generalize bZ (List.range 18++us)=W at *
 by_cases hj:j/8<12
 · have h2:da (W++List.replicate 116 0) j=da W j:=by
    unfold da aJ
    rw[List.getD_eq_getElem?_getD,List.getElem?_append_left (by omega),← List.getD_eq_getElem?_getD,List.length_append,hw,List.length_replicate,decide_eq_true hj,decide_eq_true (show j/8<12+116 by omega)]
   rw[h2,h1,decide_eq_decide,List.mem_append,List.mem_range]
   constructor
   · exact fun h=>h.2
   · exact fun h=>⟨by omega,h⟩
 · have h2:da (W++List.replicate 116 0) j=false:=by
    have h3:=qV 116 (j - 96)
    unfold da aJ at h3 ⊢
    rw[List.getD_eq_getElem?_getD,List.getElem?_append_right (by omega),← List.getD_eq_getElem?_getD,hw]
    rw[show(j - 96)/8=j/8 - 12 by omega,show(j - 96)%8=j%8 by omega] at h3
    by_cases h4:j/8<128
    · rw[decide_eq_true (by simp;omega),Bool.true_and] at h3
      rw[h3,Bool.and_false]
    · rw[decide_eq_false (by simp[hw];omega),Bool.false_and]
   rw[h2,decide_eq_false]
   rintro⟨h5,-⟩
   omega
theorem tG (d:List UInt8) (a m n:Nat):cut d a (m+n)=cut d a m++cut d (a+m) n:=by
 unfold cut
 rw[List.take_add,List.drop_drop]
theorem xG {l:List UInt8} {n:Nat} (hl:l.length=n):gz l=true↔l=List.replicate n 0:=by
 unfold gz
 rw[List.all_eq_true,List.eq_replicate_iff]
 simp[hl]
theorem tR {d:List UInt8} (hd:d.length=12288):cut d 0 128=kU↔cut d 0 4 = [82,70,83,49]∧gz (cut d 4 124)=true:=by
 have h1:cut d 0 128=cut d 0 4++cut d 4 124:=tG d 0 4 124
 have h2:kU = [82,70,83,49]++List.replicate 124 0:=by decide
 rw[h1,h2,xG (aZ (by omega))]
 constructor
 · intro h
   exact List.append_inj h (aZ (by omega))
 · rintro⟨h3,h4⟩
   rw[h3,h4]
theorem wc {d:List UInt8} (hd:d.length=12288) (us:List Nat) (h : ∀ i∈us,i<96):cut d 1664 128=kG us 96↔gz (cut d 1676 116)=true∧bZ (List.range 18++us)=bA d:=by
 have h1:cut d 1664 128=bA d++cut d 1676 116:=tG d 1664 12 116
 rw[h1,BH us h,xG (aZ (by omega))]
 constructor
 · intro h
   obtain⟨h2,h3⟩:=List.append_inj h (by rw[aU hd,bu])
   exact⟨h3,h2.symm⟩
 · rintro⟨h3,h4⟩
   rw[h3,h4]
theorem CY {d:List UInt8} {N x:Nat} (h:x∈used d N) : ∃ n i,n<N∧i<12∧x=rb d n i∧x≠0:=by
 induction N with
 | zero=>cases h
 | succ N ih=>
  rcases List.mem_append.1 (show x∈used d N++part d N 12 from h) with h5 | h5
  · obtain⟨n,i,h1,h2⟩:=ih h5
    exact⟨n,i,by omega,h2⟩
  · unfold part at h5
    obtain⟨h6,h7⟩:=List.mem_filter.1 h5
    obtain⟨i,hi,rfl⟩:=List.mem_map.1 h6
    exact⟨N,i,by omega,List.mem_range.1 hi,rfl,by simpa using h7⟩
theorem oY {d:List UInt8} (hd:d.length=12288) (h : ∀ n,n<32→od d n) : ∀ n,n≤32→(used d n).Nodup
 | 0,_=>List.nodup_nil
 | n+1,hn=>by
  rcases h n (by omega) with h5 | h5
  · rw[nZ d (nY hd (by omega) h5).2.2.1]
    exact oY hd h n (by omega)
  · exact h5.2.nodup
theorem uX {d:List UInt8} (hd:d.length=12288):Eo d↔eZ d:=by
 have hup:e9 d 32 0=List.range 18++used d 32:=by
  unfold e9
  simp[part]
 have hmem:(∀ n,n<32→cH d n=true)→∀ x∈used d 32,18≤x∧x<96:=fun hf x hx=>by
  obtain⟨n,i,h1,h2,rfl,h4⟩:=CY hx
  have:=bD (hf n h1) i h2 h4
  exact⟨this.1,this.2.1⟩
 constructor
 · intro h
   have hnd:=oY hd h.slot
   have hf : ∀ n,n<32→cH d n=true:=fun n hn=>(wD hd hn (fun h0=>by rw[h0];exact h.root) (hnd (n+1) (by omega))).1 (h.slot n hn)
   have hm:=hmem hf
   obtain⟨m1,m2⟩:=(tR hd).1 h.super
   obtain⟨b1,b2⟩:=(wc hd _ fun x hx=>(hm x hx).2).1 h.bits
   refine⟨m1,m2,b1,hf,?_,by rw[hup];exact b2⟩
   rw[hup,List.nodup_append]
   refine⟨List.nodup_range,hnd 32 (Nat.le_refl _),fun a ha b hb=>?_⟩
   have:=List.mem_range.1 ha
   have:=hm b hb
   omega
 · intro h
   have hm:=hmem h.form
   have hn32:(used d 32).Nodup:=by
    have:=h.nodup
    rw[hup,List.nodup_append] at this
    exact this.2.1
   have hroot:rk d 0=2:=by
    have:=h.form 0 (by decide)
    unfold cH at this
    rw[Bool.and_eq_true] at this
    have h2:=this.2
    split at h2
    · simp at h2
    · rw[decide_eq_true_eq] at h2
      exact h2.2.2.1 rfl
   refine⟨(tR hd).2 ⟨h.magic,h.super⟩,fun n hn=>?_,(wc hd _ fun x hx=>(hm x hx).2).2 ⟨h.rest,by rw[← hup];exact h.bits⟩,hroot⟩
   refine(wD hd hn (fun h0=>by rw[h0];exact hroot) ?_).2 (h.form n hn)
   have hp:=vA d hn (Nat.le_refl 12)
   have h2:=h.nodup.sublist hp.sublist
   unfold e9 at h2
   rw[List.append_assoc,List.nodup_append] at h2
   exact h2.2.1
theorem y9 (d:List UInt8):sD d=dM d:=by
 unfold sD dM
 by_cases hd:d.length=12288
 · rw[if_pos hd,if_pos hd]
   by_cases h:eZ d
   · rw[if_pos h,if_pos ((uX hd).2 h)]
   · rw[if_neg h,if_neg fun h2=>h ((uX hd).1 h2)]
 · rw[if_neg hd,if_neg hd]
theorem wa (d:List UInt8) (h:Hd) (hh:h.Ok d.length) (hl:d.length≤1000000):af Tryz.prog 87 [h.v d.length] (fun w=>By w h d) (fun v F=>v = .int .i64 (dM d:Int)):=by
 refine af.aF ab Tryz.func87 rfl (by decide) (n:=Tryz.f87.ntmps - 1) rfl rfl fun w0 av=>?_
 conv=>whnf
 refine ak.pure (oM d h hh hl) (fun w hw=>hw) (fun v D hv=>?_)
 rw[y9] at hv
 unfold yF at hv
 split at hv
 · rename_i h0
   obtain⟨bd,bv,bb,cap,Z,rfl,hcap,rfl⟩:=hv
   conv=>whnf
   repeat (refine aa.of ?_;conv=>whnf)
   exact⟨_,aq.refl _,rfl⟩
 · obtain⟨rfl,rfl⟩:=hv
   conv=>whnf
   repeat (refine aa.of ?_;conv=>whnf)
   exact⟨_,aq.refl _,rfl⟩
theorem qQ (b:List UInt8) (h:Hd) (hh:h.Ok b.length) (i:Nat) (hi:i≤1000000) (hb:b.length≤1000000):af Tryz.prog 150 [h.v b.length,.int .i64 (i:Int)] (fun w=>By w h b) (fun v F=>v = .bool (da b i)):=by
 refine af.aF ab Tryz.func150 rfl (by decide) (n:=Tryz.f150.ntmps - 2) rfl rfl fun w0 av=>?_
 have hw:IntKind.i64.wrap (Int.tdiv (i:Int) (Int.ofNat 8))=((i/8:Nat):Int):=kI i 8 (by omega)
 have hm:Int.tmod (i:Int) (Int.ofNat 8)=((i%8:Nat):Int):=dL i 8
 conv=>whnf
 repeat (refine aa.of ?_;conv=>whnf)
 refine aH.split (fun ht=>?_) (fun ht=>?_)
 · conv=>whnf
   have hlt:i/8<b.length:=by
    simp only[bI,au,Bool.and_eq_true,decide_eq_true_eq] at ht
    have:=ht.2
    rw[hw] at this
    omega
   refine aj.ah (ai.cL ab (t:=23) rfl rfl rfl rfl (i/8) hw hlt hh fun ad had=>?_)
   conv=>whnf
   refine aj.ah (ai.cy ab (t:=5) rfl rfl had (.fact fun w h=>h) rfl hlt ?_)
   conv=>whnf
   refine aj.ah (ai.shr (a:=aJ b (i/8)) hm (by show i%8≤8;omega) ?_)
   conv=>whnf
   repeat (refine aa.of ?_;conv=>whnf)
   refine⟨_,aq.refl _,?_⟩
   show Value.bool (true&&cN (Sx.bits .and .u8 ((aJ b (i/8)/2 ^ (i%8):Nat):Int) 1) 1)=_
   rw[zu (bJ _ _) (Nat.mod_lt _ (by decide)),aD]
   unfold da
   rw[decide_eq_true hlt,Bool.true_and]
   generalize aJ b (i/8)/2 ^ (i%8)%2=q
   congr 1
   rw[Bool.eq_iff_iff]
   simp only[Bool.true_and,beq_iff_eq,decide_eq_true_eq]
   omega
 · conv=>whnf
   repeat (refine aa.of ?_;conv=>whnf)
   refine⟨_,aq.refl _,?_⟩
   have hlt : ¬ i/8<b.length:=by
    simp only[bI,au,Bool.and_eq_false_iff,decide_eq_false_iff_not] at ht
    rw[hw] at ht
    omega
   unfold da
   rw[decide_eq_false hlt]
   rfl
theorem nv (b:List UInt8) (h:Hd) (i j:Nat) (hb:b.length≤1000000) (hij:i≤j∧j≤8*b.length) :
 af Tryz.prog 149 [h.v b.length,.int .i64 (i:Int),.int .i64 (j:Int)] (fun w=>True) (fun v F=>v = .bool true):=by
 refine af.aF ab Tryz.func149 rfl (by decide) (n:=Tryz.f149.ntmps - 3) rfl rfl fun w0 av=>?_
 conv=>whnf
 repeat (refine aa.of ?_;conv=>whnf)
 refine⟨_,aq.refl _,?_⟩
 congr 1
 simp only[eU,bI,Bool.and_eq_true,decide_eq_true_eq]
 rw[wrap_i64 (by omega)]
 omega
theorem mu (b:Nat) (l:List UInt8) (Z:List Value) (cap i:Nat) (on:Bool) (hi:i/8<l.length) (hb:l.length≤1000000) (hc:l.length≤cap) :
 bM Tryz.prog 112 [.slice (some ⟨b,0,none⟩) l.length cap,.int .i64 (i:Int),.bool on] [(b,Row.c (l.map ao++Z))] (fun w=>True) (fun v F=>F=⟨fun _=>True,[(b,Row.c ((cq l i on).map ao++Z))]⟩):=by
 refine bM.aF ab Tryz.func112 rfl (by decide) (n:=Tryz.f112.ntmps - 3) rfl rfl (by simp) fun w0 av=>?_
 have hw:IntKind.i64.wrap (Int.tdiv (i:Int) (Int.ofNat 8))=((i/8:Nat):Int):=kI i 8 (by omega)
 have hm:Int.tmod (i:Int) (Int.ofNat 8)=((i%8:Nat):Int):=dL i 8
 have h8:i%8<8:=Nat.mod_lt _ (by decide)
 conv=>whnf
 repeat (refine aa.of ?_;conv=>whnf)
 cases on
 · conv=>whnf
   repeat (refine aa.of ?_;conv=>whnf)
   refine aI.draw ab mixed rfl rfl ?_
   conv=>whnf
   repeat' (first
    | (refine And.intro ?_ ?_<;>conv=>whnf)
    | (refine ax.same rfl ?_;conv=>whnf)
    | (refine ax.row rfl ?_;conv=>whnf)
    | (refine ax.call rfl ?_;conv=>whnf)
    | (refine bG.of ?_;conv=>whnf)
    | (refine aa.of ?_;conv=>whnf)
    | (refine ai.jf ab (t:=23) rfl rfl rfl rfl (i/8) hw hi ?_;conv=>whnf)
    | (refine ai.sM ab (t:=5) rfl rfl (l:=l) (bp.bytes (Z:=Z) (by simp)) hi ?_;conv=>whnf)
    | (refine ai.shl (j:=i%8) hm (by show i%8≤8;omega) ?_;conv=>whnf)
    | (refine a_.cC ab (t:=5) rfl rfl (r1:=[]) (r2:=[]) (l:=l) (Z:=Z) (bX (aJ l (i/8)) (i%8)) rfl (qP (bJ _ _) h8) (pQ (bJ _ _) h8) hi ?_;conv=>whnf)
    | (refine ax.mk ?_ ?_;(focus (first | exact aq.refl _ | exact aq.left _ _ | exact aq.of_le ⟨List.sublist_append_left _ _,fun w h=>h⟩ | exact aq.of_le ⟨List.Sublist.refl _,fun w h=>h.1⟩));conv=>whnf))
   all_goals exact⟨_,aq.refl _,rfl⟩
 · conv=>whnf
   repeat (refine aa.of ?_;conv=>whnf)
   refine aI.draw ab mixed rfl rfl ?_
   conv=>whnf
   repeat' (first
    | (refine And.intro ?_ ?_<;>conv=>whnf)
    | (refine ax.same rfl ?_;conv=>whnf)
    | (refine ax.row rfl ?_;conv=>whnf)
    | (refine ax.call rfl ?_;conv=>whnf)
    | (refine bG.of ?_;conv=>whnf)
    | (refine aa.of ?_;conv=>whnf)
    | (refine ai.jf ab (t:=23) rfl rfl rfl rfl (i/8) hw hi ?_;conv=>whnf)
    | (refine ai.sM ab (t:=5) rfl rfl (l:=l) (bp.bytes (Z:=Z) (by simp)) hi ?_;conv=>whnf)
    | (refine ai.shl (j:=i%8) hm (by show i%8≤8;omega) ?_;conv=>whnf)
    | (refine a_.cC ab (t:=5) rfl rfl (r1:=[]) (r2:=[]) (l:=l) (Z:=Z) (s_ (aJ l (i/8)) (i%8)) rfl (uP (bJ _ _) h8) (qo (bJ _ _) h8) hi ?_;conv=>whnf)
    | (refine ax.mk ?_ ?_;(focus (first | exact aq.refl _ | exact aq.left _ _ | exact aq.of_le ⟨List.sublist_append_left _ _,fun w h=>h⟩ | exact aq.of_le ⟨List.Sublist.refl _,fun w h=>h.1⟩));conv=>whnf))
   all_goals exact⟨_,aq.refl _,rfl⟩
def Er (l:List UInt8) (e:Nat) (v:Value) (F:Fx):Prop:=∃ b cap Z,v = .tuple #[.slice (some ⟨b,0,none⟩) l.length cap,.int .i64 (e:Int)]∧l.length≤cap∧F=⟨fun _=>True,[(b,Row.c (l.map ao++Z))]⟩
theorem qn (b:List UInt8) (h:Hd) (hh:h.Ok b.length) (i:Nat) (on:Bool) (hi:i/8<b.length) (hb:b.length≤1000000) :
 af Tryz.prog 64 [h.v b.length,.int .i64 (i:Int),.bool on] (fun w=>By w h b) (Er (cq b i on) 0):=by
 refine af.aF ab Tryz.func64 rfl (by decide) (n:=Tryz.f64.ntmps - 3) rfl rfl fun w0 av=>?_
 have hw:IntKind.i64.wrap (Int.tdiv (i:Int) (Int.ofNat 8))=((i/8:Nat):Int):=kI i 8 (by omega)
 conv=>whnf
 repeat (refine aa.of ?_;conv=>whnf)
 generalize hc:(mL _ _||_)=c
 cases c
 rotate_left
 · exfalso
   simp only[au,bI,Bool.or_eq_true,decide_eq_true_eq] at hc
   rcases hc with hc | hc
   · omega
   · rw[show(Int.ofNat (7+1))=Int.ofNat 8 from rfl,hw] at hc
     omega
 conv=>whnf
 refine ak.pure (eE b h hh (by omega) hb) (fun w hw=>hw) (fun v D hv=>?_)
 obtain⟨b1,cap,Z,rfl,hcap,rfl⟩:=hv
 have hpl:=bz b i on
 have hcp:=mu b1 b Z cap i on hi hb hcap
 generalize cq b i on=b' at *
 conv=>whnf
 refine ak.c_ (F':=⟨fun w=>True,[] ++ [(b1,Row.c (b.map ao++Z))] ++ []⟩) (aq.of_le ⟨by simp[Fx.and],fun w hw=>trivial⟩) ?_
 refine ak.rows hcp (fun w hw=>trivial) (fun v F hv=>?_)
 subst hv
 conv=>whnf
 refine⟨⟨fun _=>True,[(b1,Row.c (b'.map ao++Z))]⟩,aq.of_le ⟨by simp,fun w _=>trivial⟩,b1,cap,Z,?_,by omega,rfl⟩
 rw[hpl]
 rfl
abbrev iW:=Nat×Nat×(Nat→Nat)
def iG (i:iW):List Value:=bg i.1 i.2.1 i.2.2
def lR (g:Nat→iW):Nat→List Value
 | 0=>[]
 | n+1=>lR g n++iG (g n)
def dX (X:Value) (g:Nat→iW) (Y:Value):List Value:=X::(lR g 32 ++ [Y])
def bB (d:List UInt8) (n:Nat):iW:=(rk d n,rs d n,rb d n)
def fN (g:Nat→iW) (n:Nat) (i:iW) (m:Nat):iW:=if m=n then i else g m
theorem nH (i:iW):(iG i).length=14:=rfl
theorem ei (g:Nat→iW) : ∀ n,(lR g n).length=14*n
 | 0=>rfl
 | n+1=>by
  unfold lR
  rw[List.length_append,ei g n,nH]
  omega
theorem qc {g g':Nat→iW} : ∀ {n:Nat},(∀ m,m<n→g m=g' m)→lR g n=lR g' n
 | 0,_=>rfl
 | n+1,h=>by
  unfold lR
  rw[qc (n:=n) fun m hm=>h m (by omega),h n (by omega)]
theorem Bo (d:List UInt8) (x y:Value):cU d x y 32=dX x (bB d) y:=by
 have h : ∀ n,ik d n=lR (bB d) n:=fun n=>by
  induction n with
  | zero=>rfl
  | succ n ih=>
   show ik d n++_=lR (bB d) n++_
   rw[ih]
   rfl
 unfold cU dX
 rw[h]
 simp
theorem fh (X:Value) (g:Nat→iW) (Y:Value):(dX X g Y).length=450:=by
 simp[dX,ei]
theorem ow {A B l:List Value} {k:Nat} (h:k+l.length≤A.length):laid (A++B) k l=laid A k l++B:=by
 unfold laid
 rw[List.take_append_of_le_length (by omega),List.drop_append_of_le_length (by omega)]
 simp
theorem qE {A B l:List Value} {k:Nat} (h:k=A.length) (hl:l.length=B.length):laid (A++B) k l=A++l:=by
 subst h
 unfold laid
 rw[List.take_left,List.drop_append,List.drop_of_length_le (by omega),Nat.add_sub_cancel_left,List.drop_of_length_le (by omega)]
 simp
theorem lF {a:Value} {A l:List Value} {k:Nat}:laid (a::A) (1+k) l=a::laid A k l:=by
 unfold laid
 rw[show 1+k=k+1 by omega,List.take_succ_cons,show k+1+l.length=(k+l.length)+1 by omega,List.drop_succ_cons]
 rfl
theorem xo (g:Nat→iW) {n:Nat} (i:iW) : ∀ {N:Nat},n<N→laid (lR g N) (14*n) (iG i)=lR (fN g n i) N
 | 0,h=>by omega
 | N+1,h=>by
  unfold lR
  by_cases hn:n=N
  · subst hn
    rw[qE (l:=iG i) (B:=iG (g n)) (by rw[ei]) rfl]
    rw[qc (g':=fN g n i) fun m hm=>by unfold fN;rw[if_neg (by omega)]]
    unfold fN
    rw[if_pos rfl]
  · rw[ow (by rw[ei,nH];omega),xo g i (show n<N by omega)]
    unfold fN
    rw[if_neg (fun e=>hn e.symm)]
theorem mF (X:Value) (g:Nat→iW) (Y:Value) {n:Nat} (hn:n<32) (i:iW):laid (dX X g Y) (1+14*n) (iG i)=dX X (fN g n i) Y:=by
 unfold dX
 rw[lF,ow (by rw[ei,nH];omega),xo g i hn]
theorem p9 (X:Value) (g:Nat→iW) (Y Y':Value):laid (dX X g Y) 449 [Y']=dX X g Y':=by
 unfold dX
 rw[show(449:Nat)=1+448 from rfl,lF,qE (l:=[Y']) (B:=[Y]) (by rw[ei]) rfl]
theorem tV (g:Nat→iW) {n:Nat} (B:List Value) : ∀ {N:Nat},n<N→((lR g N++B).drop (14*n)).take 14=iG (g n)
 | 0,h=>by omega
 | N+1,h=>by
  unfold lR
  rw[List.append_assoc]
  by_cases hn:n=N
  · subst hn
    rw[List.drop_append,List.drop_of_length_le (by rw[ei];omega),ei,Nat.sub_self,List.drop_zero,List.nil_append]
    exact List.take_left' (nH _)
  · exact tV g (iG (g N)++B) (show n<N by omega)
theorem Cl (X:Value) (g:Nat→iW) (Y:Value) {n:Nat} (hn:n<32):((dX X g Y).drop (1+14*n)).take 14=iG (g n):=by
 unfold dX
 rw[show 1+14*n=14*n+1 by omega,List.drop_succ_cons]
 exact tV g [Y] hn
theorem Cy (X:Value) (g:Nat→iW) (Y:Value) {n:Nat} (hn:n<32) {i:Nat} (hi:i<14):(dX X g Y)[1+14*n+i]? = (iG (g n))[i]?:=by
 rw[← Cl X g Y hn,List.getElem?_take_of_lt hi,List.getElem?_drop]
theorem CD (X:Value) (g:Nat→iW) (Y:Value) {n:Nat} (hn:n<32):(dX X g Y)[1+14*n]? = some (aE (g n).1):=Cy X g Y hn (i:=0) (by decide)
theorem nk (X:Value) (g:Nat→iW) (Y:Value):(dX X g Y)[449]? = some Y:=by
 unfold dX
 rw[List.getElem?_cons_succ,List.getElem?_append_right (by rw[ei];omega),ei]
 rfl
def eR (g:Nat→iW) (n:Int):Nat:=if n<0∨32≤n then 2 else if (g n.toNat).1=0 then 8 else 0
def ir (g:Nat→iW) (n:Int):iW:=if eR g n=0 then g n.toNat else (0,0,fun _=>0)
theorem xr {g:Nat→iW} {n:Int} {e:Nat} (h:eR g n=e) (he:e≠0):ir g n=(0,0,fun _=>0):=by
 unfold ir
 rw[if_neg (by omega)]
theorem An (bv:Nat) (X:Value) (g:Nat→iW) (Y:Value) (n:Int) :
 af Tryz.prog 124 [.pointer (some ⟨bv,0,none⟩),.int .i64 n] (fun w=>aB w (some ⟨bv,0,none⟩) (dX X g Y)) (fun v F=>v = .tuple #[.agg ⟨iG (ir g n)⟩,.int .i64 (eR g n:Int)]):=by
 have hV:=fh X g Y
 have hk:=fun m (hm:m<32)=>CD X g Y hm
 have ha:=fun m (hm:m<32)=>Cl X g Y hm
 generalize hVe:dX X g Y=V at *
 refine af.aF ab Tryz.func124 rfl (by decide) (n:=Tryz.f124.ntmps - 2) rfl rfl fun w0 av=>?_
 conv=>whnf
 repeat (refine aa.of ?_;conv=>whnf)
 intro b4
 conv=>whnf
 repeat (refine aa.of ?_;conv=>whnf)
 generalize hr:(mL n 0||gG n 32)=r
 cases r
 rotate_left
 · have he:eR g n=2:=by
    unfold eR
    rw[if_pos (by simp[au,bI] at hr;omega)]
   rw[xr he (by decide),he]
   conv=>whnf
   repeat (refine aa.of ?_;conv=>whnf)
   exact⟨_,aq.refl _,rfl⟩
 have hn:0≤n∧n<32:=by
  simp[au,bI] at hr
  omega
 obtain⟨m,rfl⟩ : ∃ m:Nat,n=m:=⟨n.toNat,by omega⟩
 have hm:m<32:=by omega
 have hge:eR g (m:Int)=if (g m).1=0 then 8 else 0:=by
  unfold eR
  rw[if_neg (by omega)]
  rfl
 conv=>whnf
 repeat (refine aa.of ?_;conv=>whnf)
 refine aj.ah (ai.dk ab (t:=103) rfl rfl rfl m rfl hm rfl ?_)
 conv=>whnf
 repeat (refine aa.of ?_;conv=>whnf)
 refine aj.ah (ai.bS ab (t:=3) rfl rfl (ad:=⟨bv,0,none⟩) (k:=1+14*m) (L:=V) (v:=aE (g m).1) (.fact fun w hw=>hw) (fun _=>by simp only[Addr.aV];congr 1;omega) (hk m hm) ?_)
 conv=>whnf
 repeat (refine aa.of ?_;conv=>whnf)
 refine aH.split (fun hz=>?_) (fun hz=>?_)
 · have hz':(g m).1=0:=by
    simp[aD] at hz
    omega
   have he:eR g (m:Int)=8:=by rw[hge,if_pos hz']
   rw[xr he (by decide),he]
   conv=>whnf
   repeat (refine aa.of ?_;conv=>whnf)
   exact⟨_,aq.refl _,rfl⟩
 · have hz':(g m).1≠0:=by
    simp[aD] at hz
    omega
   have he:eR g (m:Int)=0:=by rw[hge,if_neg hz']
   have hi:ir g (m:Int)=g m:=by
    unfold ir
    rw[he,if_pos rfl]
    rfl
   rw[hi,he]
   conv=>whnf
   repeat (refine aa.of ?_;conv=>whnf)
   refine aj.ah (ai.dk ab (t:=103) rfl rfl rfl m rfl hm rfl ?_)
   conv=>whnf
   repeat (refine aa.of ?_;conv=>whnf)
   refine aj.ah (ai.kC ab (t:=82) rfl rfl (ad:=⟨bv,0,none⟩) (k:=1+14*m) (L:=V) (m:=iG (g m)) (.fact fun w hw=>hw) (by simp only[Addr.aV];congr 1;omega) (ha m hm) rfl ?_)
   conv=>whnf
   repeat (refine aa.of ?_;conv=>whnf)
   exact⟨_,aq.refl _,rfl⟩
theorem yC (b:List UInt8) (h:Hd) (hh:h.Ok b.length) (i:Nat) (on:Bool) (hi:i/8<b.length) (hb:b.length≤1000000) :
 af Tryz.prog 64 [h.v b.length,.int .i64 (i:Int),.bool on] (fun w=>By w h b) (fun v F=>∃ k:Hd,v = .tuple #[k.v b.length,.int .i64 0]∧k.Ok b.length∧F=⟨fun w=>By w k (cq b i on),[]⟩):=
 (qn b h hh i on hi hb).weaken fun v F ⟨b1,cap,Z,hv,hc,hF⟩=>by
  subst hv hF
  rw[bz] at hc ⊢
  exact⟨⟨fun w=>By w ⟨some ⟨b1,0,none⟩,cap⟩ (cq b i on),[]⟩,aq.kr (r1:=[]) (r2:=[]),⟨some ⟨b1,0,none⟩,cap⟩,rfl,⟨fun h=>(by cases h),hc⟩,rfl⟩
def Cq (bv:Nat) (X:Value) (g:Nat→iW) (k:Hd) (bits:List UInt8) (F:Fx):Prop:=F=⟨fun w=>By w k bits,[(bv,Row.c (dX X g (k.v 12)))]⟩
theorem s5 (bv:Nat) (X:Value) (g:Nat→iW) (k:Hd) (bits:List UInt8) (hk:k.Ok 12) (hb:bits.length=12) (x:Nat) (hx:x<96) :
 bM Tryz.prog 90 [.pointer (some ⟨bv,0,none⟩),.int .i64 (x:Int)] [(bv,Row.c (dX X g (k.v 12)))] (fun w=>By w k bits)
  (fun v F=>∃ k2:Hd,k2.Ok 12∧Cq bv X g k2 (if x=0 then bits else cq bits x false) F):=by
 have hV:=fh X g (k.v 12)
 have hl:=nk X g (k.v 12)
 have hst:=fun Y'=>p9 X g (k.v 12) Y'
 refine bM.aF ab Tryz.func90 rfl (by decide) (n:=Tryz.f90.ntmps - 2) rfl rfl (by simp) fun w0 av=>?_
 unfold Cq
 generalize hVe:dX X g (k.v 12)=V at *
 conv=>whnf
 repeat (refine aa.of ?_;conv=>whnf)
 refine aH.split (fun hz=>?_) (fun hz=>?_)
 · have hx0:x≠0:=by
    simp[ar] at hz
    omega
   rw[if_neg hx0]
   have hs:=yC bits k (by rw[hb];exact hk) x false (by rw[hb];omega) (by omega)
   have hpl:=bz bits x false
   rw[hb] at hs hpl
   generalize cq bits x false=bits' at *
   conv=>whnf
   repeat (refine aa.of ?_;conv=>whnf)
   refine aj.ah (ai.bS ab (t:=23) rfl rfl (ad:=⟨bv,0,none⟩) (k:=449) (L:=V) (v:=k.v 12) (bp.row (by simp)) (fun _=>rfl) hl ?_)
   conv=>whnf
   repeat (refine aa.of ?_;conv=>whnf)
   refine ak.pure hs (fun w hw=>hw) (fun v D hv=>?_)
   obtain⟨k2,rfl,hk2,rfl⟩:=hv
   conv=>whnf
   repeat (refine aa.of ?_;conv=>whnf)
   refine a_.cE ab (t:=23) rfl (r1:=[]) (r2:=[]) (b:=bv) (k:=449) (C:=V) (v:=k2.v 12) (by rw[Addr.aV]) rfl (by simp[Value.cells,aO,Hd.v]) (by rw[hV];decide) ?_
   rw[show laid V 449 (k2.v 12).cells.toList=dX X g (k2.v 12) from hst _]
   conv=>whnf
   repeat (refine aa.of ?_;conv=>whnf)
   exact⟨⟨fun w=>By w k2 bits',[(bv,Row.c (dX X g (k2.v 12)))]⟩,aq.of_le ⟨by simp[Fx.and],fun w hw=>hw.2⟩,k2,hk2,rfl⟩
 · have hx0:x=0:=by
    simp[ar] at hz
    omega
   rw[if_pos hx0,← hVe]
   conv=>whnf
   repeat (refine aa.of ?_;conv=>whnf)
   exact⟨_,aq.refl _,k,hk,rfl⟩
def zg (b:List UInt8) (v:Value) (F:Fx):Prop:=
 match cI b with
 | none=>∃ e:Int,e=13∧v = .tuple #[.slice none 0 0,.slice none 0 0,.int .i64 e]∧F=⟨fun w=>True,[]⟩
 | some i=>∃ (l k:Hd) (e:Int),e=0∧v = .tuple #[l.v 1,k.v b.length,.int .i64 e]∧l.Ok 1∧k.Ok b.length∧F=⟨fun w=>aB w l.a [aE i]∧By w k (cq b i true),[]⟩
theorem xx (b:List UInt8) (h:Hd) (hh:h.Ok b.length) (hb:b.length=12) (one:Int) (hone:one=1):af Tryz.prog 125 [h.v b.length,.int .i64 18,.int .i64 96,.int .i64 one] (fun w=>By w h b) (zg b):=by
 generalize h96:(96:Int)=n96
 generalize h18:(18:Int)=n18
 refine af.aF ab Tryz.func125 rfl (by decide) (n:=Tryz.f125.ntmps - 4) rfl rfl fun w0 av=>?_
 conv=>whnf
 subst h18 h96
 refine ak.val (nv b h 18 96 (by omega) (by omega)) (fun w hw=>trivial) (fun v D hv=>?_)
 obtain⟨vv,hvv⟩ : ∃ vv,vv=true:=⟨_,rfl⟩
 rw[← hvv] at hv
 subst hv
 conv=>whnf
 repeat (refine aa.of ?_;conv=>whnf)
 refine aH.no (by subst hvv hone;simp[au]) ?_
 conv=>whnf
 refine ak.pure (eE b h hh (by omega) (by omega)) (fun w hw=>hw) (fun v D hv=>?_)
 obtain⟨b1,cap1,Z,rfl,hcap1,rfl⟩:=hv
 conv=>whnf
 generalize h96:(96:Int)=n96
 refine aI.loop ab (ι:=Nat×Bool×Option Addr×Nat×List Value) ([8,11]++List.range' 24 22)
  (fun x=>(18≤x.1∧x.1≤96)∧match x.2.1 with
   | false=>(∀ j,18≤j→j<x.1→da b j=true)∧x.2.2.1=none∧x.2.2.2.1=0∧x.2.2.2.2 = []
   | true=>19≤x.1∧cI b=some (x.1 - 1)∧Own 1 1 x.2.2.1 x.2.2.2.1 x.2.2.2.2 [aE (x.1 - 1)])
  (fun x=>[(8,.v (.slice x.2.2.1 (cond x.2.1 1 0) x.2.2.2.1)),(11,.v (.int .i64 (x.1:Int)))]) (fun _=>[])
  (fun x=>⟨fun w=>By w h b,[] ++ [(b1,Row.c ((cond x.2.1 (cq b (x.1 - 1) true) b).map ao++Z))]++aR x.2.2.1 x.2.2.2.2⟩)
  (fun x=>96 - x.1) (18,false,none,0,[]) ⟨⟨Nat.le_refl _,by omega⟩,fun j h1 h2=>by omega,rfl,rfl,rfl⟩ ?_ rfl (aq.of_le ⟨by simp[aR,Fx.and],fun w hw=>by exact hw.1⟩) fun x hx=>?_
 · conv=>whnf
   repeat (first | exact aw.nil | refine aw.any ?_ | refine aw.cons ?_)
 obtain⟨i,fo,a,cap,C⟩:=x
 obtain⟨⟨hi1,hi2⟩,hx⟩:=hx
 dsimp only at hi1 hi2 hx ⊢
 cases fo
 · obtain⟨hall,rfl,rfl,rfl⟩:=hx
   conv=>whnf
   repeat (refine aa.of ?_;conv=>whnf)
   refine aH.split (fun ht=>?_) (fun ht=>?_)
   · conv=>whnf
     have hlt:i<96:=by
      subst h96
      simp only[au,Bool.and_eq_true,decide_eq_true_eq] at ht
      omega
     refine ak.val (qQ b h hh i (by omega) (by omega)) (fun w hw=>hw) (fun v D hv=>?_)
     generalize hg:da b i=g at hv
     subst hv
     conv=>whnf
     cases g
     · conv=>whnf
       repeat' (first
        | (refine aH.yes rfl ?_;conv=>whnf))
       refine aj.build ab (t:=97) rfl rfl rfl [.int .i64 (i:Int)] rfl rfl (by simp[Value.cells]) (by decide) fun b0=>?_
       conv=>whnf
       refine aj.c_ (F':=⟨fun w=>By w h b,[(b1,Row.c (b.map ao++Z))]++aR none [] ++ [(b0,Row.c [aE i])]⟩) (aq.of_le ⟨by simp[Value.cells,aR,aE],fun w hw=>hw⟩) ?_
       refine aj.append ab (t:=97) (xt:=97) rfl rfl rfl rfl rfl rfl (r1:=[(b1,Row.c (b.map ao++Z))]) (r2:=[(b0,Row.c [aE i])]) (M:=[aE i]) (Own.nil 1) (bp.row (by simp)) rfl (by simp[aE,aO]) (by simp) (by simp) fun a' c' C' hO'=>?_
       conv=>whnf
       refine ak.c_ (F':=⟨fun w=>By w h b,[] ++ [(b1,Row.c (b.map ao++Z))]++aR a' C'⟩) (aq.of_le ⟨by simp,fun w hw=>hw⟩) ?_
       refine ak.rows (mu b1 b Z cap1 i true (by omega) (by omega) hcap1) (fun w hw=>trivial) (fun v F hv=>?_)
       subst hv
       conv=>whnf
       refine⟨(i+1,true,a',c',C'),⟨⟨⟨by dsimp only;omega,by dsimp only;omega⟩,by dsimp only;omega,?_,?_⟩,by dsimp only;omega⟩,?_,?_,?_⟩
       · exact qq hi1 hlt hall hg
       · simpa using hO'
       · conv=>whnf
         refine⟨?_,rfl⟩
         repeat (first | exact aw.nil | refine aw.any ?_ | refine aw.cons ?_ | refine aw.eq (by rw[wrap_i64 (by omega)];rfl) ?_)
       · conv=>whnf
         exact trivial
       · exact aq.of_le ⟨by simp,fun w hw=>hw.1⟩
     · conv=>whnf
       repeat' (first
        | (refine aH.no rfl ?_;conv=>whnf))
       refine⟨(i+1,false,none,0,[]),⟨⟨⟨by dsimp only;omega,by dsimp only;omega⟩,fun j h1 h2=>?_,rfl,rfl,rfl⟩,by dsimp only;omega⟩,?_,?_,aq.refl _⟩
       · rcases Nat.lt_or_eq_of_le (Nat.lt_succ_iff.1 h2) with h3 | h3
         · exact hall j h1 h3
         · subst h3
           exact hg
       · conv=>whnf
         refine⟨?_,rfl⟩
         repeat (first | exact aw.nil | refine aw.any ?_ | refine aw.cons ?_ | refine aw.eq (by rw[wrap_i64 (by omega)];rfl) ?_)
       · conv=>whnf
         exact trivial
   · conv=>whnf
     have hie:i=96:=by
      subst h96
      subst hone
      simp[au] at ht
      omega
     refine aH.yes (by subst hone;simp[au]) ?_
     conv=>whnf
     refine⟨⟨fun w=>True,[]⟩,aq.bare fun w hw=>trivial,?_⟩
     unfold zg
     rw[qB (fun j h1 h2=>hall j h1 (by omega))]
     exact⟨13,rfl,rfl,rfl⟩
 · obtain⟨hi3,hfr,hO⟩:=hx
   have hpl:=bz b (i - 1) true
   generalize hpb:cq b (i - 1) true=b' at *
   conv=>whnf
   repeat (refine aa.of ?_;conv=>whnf)
   refine aH.no (by subst hone;simp[au]) ?_
   conv=>whnf
   refine aH.no (by subst hone;simp[au]) ?_
   conv=>whnf
   refine⟨⟨fun w=>aB w a [aE (i - 1)]∧By w ⟨some ⟨b1,0,none⟩,cap1⟩ b',[]⟩,?_,?_⟩
   · refine(Own.share (r1:=[] ++ [(b1,Row.c (b'.map ao++Z))]) (r2:=[]) hO |> fun h=>(show aq ⟨_,[] ++ [(b1,Row.c (b'.map ao++Z))]++aR a C⟩ ⟨_,[] ++ [(b1,Row.c (b'.map ao++Z))] ++ []⟩ from by simpa using h)).trans ?_
     exact aq.nE.trans (aq.imp fun w hw=>⟨hw.1.2,hw.2⟩)
   · unfold zg
     rw[hfr]
     dsimp only
     rw[hpb]
     exact⟨⟨a,cap⟩,⟨some ⟨b1,0,none⟩,cap1⟩,0,rfl,rfl,hO.hd,⟨fun h=>(by cases h),hcap1⟩,rfl⟩
def Cn (bv:Nat) (X:Value) (g:Nat→iW) (k:Hd) (bits:List UInt8) (v:Value) (F:Fx):Prop:=
 match cI bits with
 | none=>∃ r:Bool,r=false∧v = .tuple #[.slice none 0 0,.bool r]∧Cq bv X g k bits F
 | some i=>∃ (l k2:Hd) (r:Bool),r=true∧v = .tuple #[l.v 1,.bool r]∧l.Ok 1∧k2.Ok 12∧F=⟨fun w=>aB w l.a [aE i]∧By w k2 (cq bits i true),[(bv,Row.c (dX X g (k2.v 12)))]⟩
theorem yS (bv:Nat) (X:Value) (g:Nat→iW) (k:Hd) (bits:List UInt8) (hk:k.Ok 12) (hb:bits.length=12) (one:Int) (hone:one=1) :
 bM Tryz.prog 75 [.pointer (some ⟨bv,0,none⟩),.int .i64 one] [(bv,Row.c (dX X g (k.v 12)))] (fun w=>By w k bits) (Cn bv X g k bits):=by
 have hV:=fh X g (k.v 12)
 have hl:=nk X g (k.v 12)
 have hst:=fun Y'=>p9 X g (k.v 12) Y'
 have hs:=xx bits k (by rw[hb];exact hk) hb one hone
 refine bM.aF ab Tryz.func75 rfl (by decide) (n:=Tryz.f75.ntmps - 2) rfl rfl (by simp) fun w0 av=>?_
 unfold Cn Cq
 unfold zg at hs
 rw[hb] at hs
 generalize hVe:dX X g (k.v 12)=V at *
 conv=>whnf
 repeat (refine aa.of ?_;conv=>whnf)
 refine aH.no (by subst hone;simp[aD]) ?_
 conv=>whnf
 repeat (refine aa.of ?_;conv=>whnf)
 refine aj.ah (ai.bS ab (t:=23) rfl rfl (ad:=⟨bv,0,none⟩) (k:=449) (L:=V) (v:=k.v 12) (bp.row (by simp)) (fun _=>rfl) hl ?_)
 conv=>whnf
 repeat (refine aa.of ?_;conv=>whnf)
 cases hf:cI bits with
 | none=>
  rw[hf] at hs
  refine ak.pure hs (fun w hw=>hw) (fun v D hv=>?_)
  obtain⟨e,he,rfl,rfl⟩:=hv
  conv=>whnf
  refine aH.yes (by subst he;simp[ar]) ?_
  conv=>whnf
  exact⟨_,aq.of_le ⟨by simp[Fx.and],fun w hw=>hw.1⟩,false,rfl,rfl,rfl⟩
 | some x=>
  rw[hf] at hs
  refine ak.pure hs (fun w hw=>hw) (fun v D hv=>?_)
  obtain⟨l,k2,e,he,rfl,hlo,hk2,rfl⟩:=hv
  dsimp only
  generalize cq bits x true=bits' at *
  conv=>whnf
  refine aH.no (by subst he;simp[ar]) ?_
  conv=>whnf
  refine a_.cE ab (t:=23) rfl (r1:=[]) (r2:=[]) (b:=bv) (k:=449) (C:=V) (v:=k2.v 12) (by rw[Addr.aV]) rfl (by simp[Value.cells,aO,Hd.v]) (by rw[hV];decide) ?_
  rw[show laid V 449 (k2.v 12).cells.toList=dX X g (k2.v 12) from hst _]
  conv=>whnf
  repeat (refine aa.of ?_;conv=>whnf)
  exact⟨⟨fun w=>aB w l.a [aE x]∧By w k2 bits',[(bv,Row.c (dX X g (k2.v 12)))]⟩,aq.of_le ⟨by simp[Fx.and],fun w hw=>hw.2⟩,l,k2,true,rfl,rfl,hlo,hk2,rfl⟩
def AZ (d:List UInt8) (o:Nat) (k s:Nat) (b:Nat→Nat):Nat→List UInt8
 | 0=>dm (dm (dm d o (k%256)) (o+1) (s/256%256)) (o+2) (s%256)
 | j+1=>dm (AZ d o k s b j) (o+(3+j)) (b j%256)
theorem m5 (d:List UInt8) (o k s:Nat) (b:Nat→Nat) : ∀ j,(AZ d o k s b j).length=d.length
 | 0=>by simp[AZ,dn]
 | j+1=>by unfold AZ;rw[dn,m5 d o k s b j]
theorem gL (k s:Nat) (b:Nat→Nat):aJ (fG k s b) 0=k%256∧aJ (fG k s b) 1=s/256%256∧aJ (fG k s b) 2=s%256∧aJ (fG k s b) 15=0:=by
 refine⟨by simp[fG,aJ],by simp[fG,aJ],by simp[fG,aJ],by simp[fG,aJ]⟩
theorem jd (k s:Nat) (b:Nat→Nat) {j:Nat} (hj:j<12):aJ (fG k s b) (3+j)=b j%256:=by
 match j,hj with
 | 0,_ | 1,_ | 2,_ | 3,_ | 4,_ | 5,_ | 6,_ | 7,_ | 8,_ | 9,_ | 10,_ | 11,_=>simp[fG,aJ,List.range_succ]
theorem zh (d:List UInt8) {o:Nat} (k s:Nat) (b:Nat→Nat) (ho:o+16≤d.length) : ∀ {j:Nat},j≤12→∀ i,aJ (AZ d o k s b j) i=if o≤i∧i<o+3+j then aJ (fG k s b) (i - o) else aJ d i
 | 0,_,i=>by
  have h0:=gL k s b
  unfold AZ
  rw[dy (by simp[dn];omega) (by omega),dy (by simp[dn];omega) (by omega),dy (by omega) (by omega)]
  by_cases h2:i=o+2
  · subst h2
    rw[if_pos rfl,if_pos (by omega),show o+2 - o=2 by omega,h0.2.2.1]
  rw[if_neg h2]
  by_cases h1:i=o+1
  · subst h1
    rw[if_pos rfl,if_pos (by omega),show o+1 - o=1 by omega,h0.2.1]
  rw[if_neg h1]
  by_cases h3:i=o
  · subst h3
    rw[if_pos rfl,if_pos (by omega),Nat.sub_self,h0.1]
  rw[if_neg h3,if_neg (by omega)]
 | j+1,hj,i=>by
  unfold AZ
  rw[dy (by rw[m5];omega) (by omega),zh d k s b ho (show j≤12 by omega)]
  by_cases h2:i=o+(3+j)
  · subst h2
    rw[if_pos rfl,if_pos (by omega),show o+(3+j) - o=3+j by omega,jd k s b (by omega)]
  rw[if_neg h2]
  by_cases h3:o≤i∧i<o+3+j
  · rw[if_pos h3,if_pos (by omega)]
  · rw[if_neg h3,if_neg (by omega)]
theorem Df (d:List UInt8) {o:Nat} (k s:Nat) (b:Nat→Nat) (ho:o+16≤d.length):dm (AZ d o k s b 12) (o+15) 0=lay d o (fG k s b):=by
 have hl:=kQ k s b
 refine bW (by rw[dn,m5,ct (by rw[hl];exact ho)]) fun i hi=>?_
 rw[dy (by rw[m5];omega) (by omega),zh d k s b ho (Nat.le_refl _),cu (by rw[hl];exact ho),hl]
 by_cases h1:i=o+15
 · subst h1
   rw[if_pos rfl,if_pos (by omega),show o+15 - o=15 by omega,(gL k s b).2.2.2]
 rw[if_neg h1]
 by_cases h2:o≤i∧i<o+16
 · rw[if_pos h2,if_pos (by omega)]
 · rw[if_neg h2,if_neg (by omega)]
theorem AO (bd:Nat) (d:List UInt8) (Z:List Value) (o c k s:Nat) (b:Nat→Nat) (ho:o+16≤d.length) (hk:k≤1000000) (hs:s≤1000000) (hb : ∀ i,b i≤1000000) :
 bM Tryz.prog 113 [.agg ⟨bg k s b⟩,.slice (some ⟨bd,o,none⟩) 16 c] [(bd,Row.c (d.map ao++Z))] (fun w=>True) (fun v F=>F=⟨fun _=>True,[(bd,Row.c ((lay d o (fG k s b)).map ao++Z))]⟩):=by
 have hlen:=m5 d o k s b
 have hend:=Df d k s b ho
 have h0:AZ d o k s b 0=dm (dm (dm d o (k%256)) (o+1) (s/256%256)) (o+2) (s%256):=rfl
 have hnx : ∀ j,AZ d o k s b (j+1)=dm (AZ d o k s b j) (o+(3+j)) (b j%256):=fun j=>rfl
 generalize AZ d o k s b=pw at *
 generalize lay d o (fG k s b)=dd at *
 refine bM.aF ab Tryz.func113 rfl (by decide) (n:=Tryz.f113.ntmps - 2) rfl rfl (by simp) fun w0 av=>?_
 conv=>whnf
 intro b2
 conv=>whnf
 refine aI.draw ab mixed rfl rfl ?_
 conv=>whnf
 repeat' (first
  | (refine And.intro ?_ ?_<;>conv=>whnf)
  | (refine ax.same rfl ?_;conv=>whnf)
  | (refine ax.row rfl ?_;conv=>whnf)
  | (refine ax.call rfl ?_;conv=>whnf)
  | (refine bG.of ?_;conv=>whnf)
  | (refine aa.of ?_;conv=>whnf)
  | (refine ai.shr (a:=s) (j:=8) rfl (by decide) ?_;conv=>whnf)
  | (refine ai.f_ ab (t:=23) rfl rfl rfl rfl 0 rfl (by decide) ?_;conv=>whnf)
  | (refine ai.f_ ab (t:=23) rfl rfl rfl rfl 1 rfl (by decide) ?_;conv=>whnf)
  | (refine ai.f_ ab (t:=23) rfl rfl rfl rfl 2 rfl (by decide) ?_;conv=>whnf)
  | (refine a_.cC ab (t:=5) rfl rfl (r1:=[]) (r2:=[]) (k:=o) (l:=d) (Z:=Z) (k%256) rfl (wrap_u8 k) (by omega) (by omega) ?_;conv=>whnf)
  | (refine a_.cC ab (t:=5) rfl rfl (r1:=[]) (r2:=[]) (k:=o+1) (l:=dm d o (k%256)) (Z:=Z) (s/256%256) rfl (wrap_u8 (s/256)) (by omega) (by rw[dn];omega) ?_;conv=>whnf)
  | (refine a_.cC ab (t:=5) rfl rfl (r1:=[]) (r2:=[]) (k:=o+2) (l:=dm (dm d o (k%256)) (o+1) (s/256%256)) (Z:=Z) (s%256) rfl (wrap_u8 s) (by omega) (by rw[dn,dn];omega) ?_;conv=>whnf)
  | (refine ax.mk ?_ ?_;(focus (first | exact aq.refl _ | exact aq.left _ _ | exact aq.of_le ⟨List.sublist_append_left _ _,fun w h=>h⟩ | exact aq.of_le ⟨List.Sublist.refl _,fun w h=>h.1⟩));conv=>whnf))
 rw[← h0]
 conv=>whnf
 repeat (refine aa.of ?_;conv=>whnf)
 refine aI.loop ab (ι:=Nat) ([4,5]++List.range' 24 11) (fun x=>x≤12)
  (fun x=>[(24,.v (.int .i64 (x:Int)))]) (fun _=>[bg k s b]) (fun x=>⟨fun w=>True,[(bd,Row.c ((pw x).map ao++Z))]⟩)
  (fun x=>12 - x) 0 (Nat.zero_le _) ?_ rfl (aq.refl _) fun i hi=>?_
 · conv=>whnf
   repeat (first | exact aw.nil | refine aw.any ?_ | refine aw.cons ?_)
 have hli:=hlen i
 have hni:=hnx i
 conv=>whnf
 refine aH.split (fun hlt=>?_) (fun hlt=>?_)
 · have hlt':i<12:=by
    simp only[au,decide_eq_true_eq] at hlt
    omega
   have hbi:=hb i
   conv=>whnf
   repeat (refine aa.of ?_;conv=>whnf)
   refine aj.ah (ai.nA ab (t:=72) rfl rfl rfl rfl rfl i rfl hlt' (pF hlt') ?_)
   conv=>whnf
   repeat (refine aa.of ?_;conv=>whnf)
   refine aj.ah (ai.f_ ab (t:=23) rfl rfl rfl rfl (3+i) (by rw[wrap_i64 (by omega)];omega) (by omega) ?_)
   conv=>whnf
   repeat (refine aa.of ?_;conv=>whnf)
   refine a_.cC ab (t:=5) rfl rfl (r1:=[]) (r2:=[]) (k:=o+(3+i)) (l:=pw i) (Z:=Z) (b i%256) rfl (wrap_u8 (b i)) (by omega) (by omega) ?_
   rw[← hni]
   conv=>whnf
   repeat (refine aa.of ?_;conv=>whnf)
   refine⟨i+1,⟨hlt',by dsimp only;omega⟩,?_,?_,aq.refl _⟩
   · conv=>whnf
     refine⟨?_,rfl⟩
     repeat (first | exact aw.nil | refine aw.any ?_ | refine aw.cons ?_ | refine aw.eq (by rw[wrap_i64 (by omega)];rfl) ?_)
   · conv=>whnf
     exact⟨⟨rfl,rfl⟩,trivial⟩
 · have hie:i=12:=by
    simp only[au,decide_eq_false_iff_not] at hlt
    omega
   subst hie
   conv=>whnf
   repeat (refine aa.of ?_;conv=>whnf)
   refine aj.ah (ai.f_ ab (t:=23) rfl rfl rfl rfl 15 rfl (by decide) ?_)
   conv=>whnf
   repeat (refine aa.of ?_;conv=>whnf)
   refine a_.cC ab (t:=5) rfl rfl (r1:=[]) (r2:=[]) (k:=o+15) (l:=pw 12) (Z:=Z) 0 rfl rfl (by decide) (by omega) ?_
   rw[hend]
   conv=>whnf
   repeat (refine aa.of ?_;conv=>whnf)
   exact⟨_,aq.refl _,rfl⟩
def l0 (d:List UInt8) (g:Nat→iW):Nat→List UInt8
 | 0=>d
 | n+1=>cS (l0 d g n) n (g n).1 (g n).2.1 (g n).2.2
theorem gO {d:List UInt8} (hd:d.length=12288) (g:Nat→iW) : ∀ {n:Nat},n≤32→(l0 d g n).length=12288
 | 0,_=>hd
 | n+1,h=>bf (gO hd g (by omega)) (by omega) _ _ _
def gl (d:List UInt8) (g:Nat→iW) (bits:List UInt8):List UInt8:=cD (l0 d g 32) bits
theorem fP {d:List UInt8} (hd:d.length=12288) (g:Nat→iW) {bits:List UInt8} (hb:bits.length=12):(gl d g bits).length=12288:=aP (gO hd g (Nat.le_refl _)) hb
theorem BL (X:Value) (g:Nat→iW) (Y:Value):((dX X g Y).drop 1).take 448=lR g 32:=by
 unfold dX
 rw[List.drop_succ_cons,List.drop_zero]
 exact List.take_left' (ei g 32)
theorem fQ (bd bv cap:Nat) (d:List UInt8) (Z:List Value) (hd:d.length=12288) (hcap:d.length≤cap) (g:Nat→iW) (hg : ∀ n,(g n).1≤1000000∧(g n).2.1≤1000000∧∀ i,(g n).2.2 i≤1000000) (k:Hd) (hk:k.Ok 12) (bits:List UInt8) (hb:bits.length=12) :
 bM Tryz.prog 65 [.pointer (some ⟨bv,0,none⟩)] [(bd,Row.c (d.map ao++Z)),(bv,Row.c (dX (.slice (some ⟨bd,0,none⟩) d.length cap) g (k.v 12)))] (fun w=>By w k bits)
  (fun v F=>v = .slice (some ⟨bd,0,none⟩) d.length cap∧F=⟨fun _=>True,[(bd,Row.c ((gl d g bits).map ao++Z))]⟩):=by
 have hV:=fh (.slice (some ⟨bd,0,none⟩) d.length cap) g (k.v 12)
 have hl:=nk (.slice (some ⟨bd,0,none⟩) d.length cap) g (k.v 12)
 have h0:(dX (.slice (some ⟨bd,0,none⟩) d.length cap) g (k.v 12))[0]? = some (.slice (some ⟨bd,0,none⟩) d.length cap):=rfl
 have hall:=BL (.slice (some ⟨bd,0,none⟩) d.length cap) g (k.v 12)
 have hpl:=fun n (h:n≤32)=>gO hd g h
 have hgl:=ei g 32
 have hga:=fun n (h:n<32)=>tV g [] h
 have hok:(⟨some ⟨bd,0,none⟩,cap⟩:Hd).Ok d.length:=⟨fun h=>(by cases h),hcap⟩
 have hdd:gl d g bits=lay (l0 d g 32) 1664 bits:=rfl
 have hp0:l0 d g 0=d:=rfl
 have hpn : ∀ n,l0 d g (n+1)=lay (l0 d g n) (1792+16*n) (fG (g n).1 (g n).2.1 (g n).2.2):=fun n=>rfl
 generalize gl d g bits=dd at *
 generalize l0 d g=pd at *
 generalize hVe:dX (.slice (some ⟨bd,0,none⟩) d.length cap) g (k.v 12)=V at *
 generalize hGe:lR g 32=G at *
 refine bM.aF ab Tryz.func65 rfl (by decide) (n:=Tryz.f65.ntmps - 1) rfl rfl (by simp) fun w0 av=>?_
 conv=>whnf
 repeat (refine aa.of ?_;conv=>whnf)
 refine aj.ah (ai.kC ab (t:=103) rfl rfl (ad:=⟨bv,0,none⟩) (k:=1) (L:=V) (m:=G) (bp.row (by simp)) (by rfl) hall (by rw[hgl]) ?_)
 conv=>whnf
 repeat (refine aa.of ?_;conv=>whnf)
 refine aI.loop ab (ι:=Nat) ([3,4]++List.range' 9 10) (fun x=>x≤32)
  (fun x=>[(9,.v (.int .i64 (x:Int)))]) (fun _=>[]) (fun x=>⟨fun w=>By w k bits,[(bd,Row.c ((pd x).map ao++Z)),(bv,Row.c V)]⟩)
  (fun x=>32 - x) 0 (Nat.zero_le _) ?_ rfl (aq.of_le ⟨by rw[hp0];exact List.Sublist.refl _,fun w hw=>hw⟩) fun i hi=>?_
 · conv=>whnf
   repeat (first | exact aw.nil | refine aw.any ?_ | refine aw.cons ?_)
 have hpi:=hpl i hi
 have hni:=hpn i
 conv=>whnf
 refine aH.split (fun hlt=>?_) (fun hlt=>?_)
 · have hlt':i<32:=by
    simp only[au,decide_eq_true_eq] at hlt
    omega
   have hgi:=hg i
   have hgai:=hga i hlt'
   rw[List.append_nil,Nat.mul_comm] at hgai
   have hpo:=AO bd (pd i) Z (1792+16*i) (cap - (1792+16*i)) (g i).1 (g i).2.1 (g i).2.2 (by omega) hgi.1 hgi.2.1 hgi.2.2
   rw[← hni] at hpo
   conv=>whnf
   repeat (refine aa.of ?_;conv=>whnf)
   refine aj.ah (ai.zI ab (t:=103) rfl rfl rfl rfl (m:=iG (g i)) i rfl hlt' hgai (by rw[hgl];show i*14+14≤_;omega) ?_)
   conv=>whnf
   repeat (refine aa.of ?_;conv=>whnf)
   intro b4
   conv=>whnf
   repeat (refine aa.of ?_;conv=>whnf)
   refine aI.draw ab mixed rfl rfl ?_
   conv=>whnf
   repeat' (first
    | (refine And.intro ?_ ?_<;>conv=>whnf)
    | (refine ax.same rfl ?_;conv=>whnf)
    | (refine ax.row rfl ?_;conv=>whnf)
    | (refine ax.call rfl ?_;conv=>whnf)
    | (refine bG.of ?_;conv=>whnf)
    | (refine aa.of ?_;conv=>whnf)
    | (refine ak.look (rF bv V ⟨some ⟨bd,0,none⟩,cap⟩ d.length h0 hok hd i hlt') (Loc.row _ _) (fun w hst=>bp.row (by simp) w hst) ?_;rw[dO (by omega)];conv=>whnf)
    | (refine ak.rows (r1:=[]) (r2:=[(bv,Row.c V)]) hpo (fun w hw=>trivial) (fun v F hv=>?_);subst hv;conv=>whnf)
    | (refine ax.mk ?_ ?_;(focus (first | exact aq.refl _ | exact aq.left _ _ | exact aq.of_le ⟨List.sublist_append_left _ _,fun w h=>h⟩ | exact aq.of_le ⟨List.Sublist.refl _,fun w h=>h.1⟩));conv=>whnf))
   all_goals
    refine⟨i+1,⟨hlt',by dsimp only;omega⟩,?_,?_,aq.of_le ⟨by simp,fun w hw=>hw.1⟩⟩
    · conv=>whnf
      refine⟨?_,rfl⟩
      repeat (first | exact aw.nil | refine aw.any ?_ | refine aw.cons ?_ | refine aw.eq (by rw[wrap_i64 (by omega)];rfl) ?_)
    · conv=>whnf
      exact trivial
 · have hie:i=32:=by
    simp only[au,decide_eq_false_iff_not] at hlt
    omega
   subst hie
   conv=>whnf
   repeat (refine aa.of ?_;conv=>whnf)
   refine aI.draw ab mixed rfl rfl ?_
   conv=>whnf
   repeat' (first
    | (refine And.intro ?_ ?_<;>conv=>whnf)
    | (refine ax.same rfl ?_;conv=>whnf)
    | (refine ax.row rfl ?_;conv=>whnf)
    | (refine ax.call rfl ?_;conv=>whnf)
    | (refine bG.of ?_;conv=>whnf)
    | (refine aa.of ?_;conv=>whnf)
    | (refine ak.look (du bv V ⟨some ⟨bd,0,none⟩,cap⟩ d.length h0 hok hd 13 (by decide)) (Loc.row _ _) (fun w hst=>bp.row (by simp) w hst) ?_;rw[dO (by omega)];conv=>whnf)
    | (refine ai.bS ab (t:=23) rfl rfl (ad:=⟨bv,0,none⟩) (k:=449) (L:=V) (v:=k.v 12) (bp.row (by simp)) (fun _=>rfl) hl ?_;conv=>whnf)
    | (refine aj.qe ab (t:=23) rfl rfl rfl rfl (r1:=[]) (r2:=[(bv,Row.c V)]) (b:=bd) (k:=1664) (l:=pd 32) (m:=bits) (Z:=Z) rfl (.fact fun w hw=>hw) hb (by decide) (by omega) ?_;rw[← hdd];conv=>whnf)
    | (refine ax.mk ?_ ?_;(focus (first | exact aq.refl _ | exact aq.left _ _ | exact aq.of_le ⟨List.sublist_append_left _ _,fun w h=>h⟩ | exact aq.of_le ⟨List.Sublist.refl _,fun w h=>h.1⟩));conv=>whnf))
   all_goals
    refine aj.ah (ai.bS ab (t:=23) rfl rfl (ad:=⟨bv,0,none⟩) (k:=0) (L:=V) (v:=.slice (some ⟨bd,0,none⟩) d.length cap) (bp.row (by simp)) (fun _=>rfl) h0 ?_)
    conv=>whnf
    repeat (refine aa.of ?_;conv=>whnf)
    exact⟨⟨fun _=>True,[(bd,Row.c (dd.map ao++Z))]⟩,aq.of_le ⟨by simp,fun w _=>trivial⟩,rfl,rfl⟩
theorem bO {d:List UInt8} (hd:d.length=12288) {n:Nat} (hn:n<32) (k s:Nat) (b:Nat→Nat) (m:Nat) :
 aJ (cS d n k s b) m=if 1792+16*n≤m∧m<1792+16*n+16 then aJ (fG k s b) (m - (1792+16*n)) else aJ d m:=by
 unfold cS
 rw[cu (by rw[kQ];omega),kQ]
theorem aX {d b:List UInt8} (hd:d.length=12288) (hb:b.length=12) (m:Nat):aJ (cD d b) m=if 1664≤m∧m<1676 then aJ b (m - 1664) else aJ d m:=by
 unfold cD
 rw[cu (by omega),hb]
theorem qH {d:List UInt8} (hd:d.length=12288) (g:Nat→iW) : ∀ {N:Nat},N≤32→∀ m,
 aJ (l0 d g N) m=if 1792≤m∧m<1792+16*N then aJ (fG (g ((m - 1792)/16)).1 (g ((m - 1792)/16)).2.1 (g ((m - 1792)/16)).2.2) ((m - 1792)%16) else aJ d m
 | 0,_,m=>by
  rw[if_neg (by omega)]
  rfl
 | N+1,hN,m=>by
  unfold l0
  rw[bO (gO hd g (by omega)) (by omega),qH hd g (show N≤32 by omega)]
  by_cases h1:1792+16*N≤m∧m<1792+16*N+16
  · rw[if_pos h1,if_pos (by omega),show(m - 1792)/16=N by omega,show m - (1792+16*N)=(m - 1792)%16 by omega]
  · rw[if_neg h1]
    by_cases h2:1792≤m∧m<1792+16*N
    · rw[if_pos h2,if_pos (by omega)]
    · rw[if_neg h2,if_neg (by omega)]
theorem qZ {d:List UInt8} {n:Nat} (hp:rp d n=0) {r:Nat} (hr:r<16):aJ (fG (rk d n) (rs d n) (rb d n)) r=aJ d (1792+16*n+r):=by
 obtain⟨h0,h1,h2,h3⟩:=gL (rk d n) (rs d n) (rb d n)
 have hb1:=bJ d (1792+16*n+1)
 have hb2:=bJ d (1792+16*n+2)
 by_cases e0:r=0
 · subst e0
   rw[h0,Nat.mod_eq_of_lt (lX d n)]
   rfl
 by_cases e1:r=1
 · subst e1
   rw[h1]
   unfold rs
   omega
 by_cases e2:r=2
 · subst e2
   rw[h2]
   unfold rs
   omega
 by_cases e3:r=15
 · subst e3
   rw[h3]
   unfold rp at hp
   exact hp.symm
 obtain⟨j,rfl⟩ : ∃ j,r=3+j:=⟨r - 3,by omega⟩
 rw[jd _ _ _ (by omega),Nat.mod_eq_of_lt (pn d n j)]
 rfl
theorem gP {d e bits:List UInt8} (ho:eZ d) (he:e.length=12288) (hb:bits.length=12) (hin : ∀ m,1792≤m→m<2304→aJ e m=aJ d m) {n:Nat} (hn:n<32) (i:iW) :
 gl e (fN (bB d) n i) bits=cD (cS e n i.1 i.2.1 i.2.2) bits:=by
 have hpl:=bf he hn i.1 i.2.1 i.2.2
 refine bW (by rw[fP he _ hb,aP hpl hb]) fun m hm=>?_
 unfold gl
 rw[aX (gO he _ (Nat.le_refl _)) hb,aX hpl hb]
 by_cases h1:1664≤m∧m<1676
 · rw[if_pos h1,if_pos h1]
 rw[if_neg h1,if_neg h1,qH he _ (Nat.le_refl _),bO he hn]
 by_cases h2:1792≤m∧m<1792+16*32
 · rw[if_pos h2]
   by_cases h3:(m - 1792)/16=n
   · rw[if_pos (by omega)]
     unfold fN
     rw[if_pos h3,show(m - 1792)%16=m - (1792+16*n) by omega]
   · rw[if_neg (by omega),hin m (by omega) (by omega)]
     unfold fN
     rw[if_neg h3]
     have hf:=ho.form ((m - 1792)/16) (by omega)
     unfold cH at hf
     rw[Bool.and_eq_true,decide_eq_true_eq] at hf
     show aJ (fG (rk d _) (rs d _) (rb d _)) _=_
     rw[qZ hf.1 (by omega)]
     congr 1
     omega
 · rw[if_neg h2,if_neg (by omega)]
theorem aq.oA {D:World→Prop} {b:Nat} {C:List Value} {rs:List (Nat×Row)}:aq ⟨D,rs ++ [(b,Row.c C)]⟩ ⟨fun w=>D w∧aB w (some ⟨b,0,none⟩) C,rs⟩:=
 (aq.perm List.perm_append_comm).trans aq.share1
def wN (d:List UInt8) (e:Nat) (v:Value) (F:Fx):Prop:=
 if e=0 then ∃ bd bv cap Z,∃ k:Hd,v = .tuple #[.pointer (some ⟨bv,0,none⟩),.int .i64 (e:Int)]∧d.length≤cap∧k.Ok 12∧
  F=⟨fun w=>By w k (bA d),[(bd,Row.c (d.map ao++Z)),(bv,Row.c (dX (.slice (some ⟨bd,0,none⟩) d.length cap) (bB d) (k.v 12)))]⟩
 else v = .tuple #[.pointer none,.int .i64 (e:Int)]∧F=⟨fun _=>True,[]⟩
theorem rV (d:List UInt8) (h:Hd) (hh:h.Ok d.length) (hl:d.length≤1000000):af Tryz.prog 121 [h.v d.length] (fun w=>By w h d) (wN d (dM d)):=
 (oM d h hh hl).weaken fun v F hv=>by
  have hce:=y9 d
  rw[hce] at hv
  unfold yF at hv
  split at hv
  · rename_i h0
    obtain⟨bd,bv,bb,cap,Z,rfl,hcap,rfl⟩:=hv
    obtain⟨hd,hok⟩:=bl h0
    have hbits:=((uX hd).2 hok).bits
    have hbm:(kG (used d 32) 96).take 12=bA d:=by
     rw[← hbits]
     unfold bA cut
     rw[List.take_take]
     rfl
    refine⟨⟨fun w=>By w ⟨some ⟨bb,0,none⟩,128⟩ (bA d),_⟩,?_,by
     unfold wN
     rw[if_pos h0]
     exact⟨bd,bv,cap,Z,⟨some ⟨bb,0,none⟩,128⟩,rfl,hcap,⟨fun h=>(by cases h),by show 12≤128;decide⟩,by rw[← Bo]⟩⟩
    refine(aq.oA (rs:=[(bd,_),(bv,_)]) (b:=bb) (C:=(kG (used d 32) 96).map ao ++ [])).trans (aq.imp fun w hw=>?_)
    have h5:=hw.2.take 12
    rw[List.append_nil,← List.map_take,hbm] at h5
    exact h5
  · rename_i h0
    obtain⟨rfl,rfl⟩:=hv
    exact⟨_,aq.refl _,by
     unfold wN
     rw[if_neg h0]
     exact⟨rfl,rfl⟩⟩
def oD (d:List UInt8) (n:Int) (v:Value) (F:Fx):Prop:=
 if dM d=0 then ∃ bd bv cap Z,∃ k:Hd,v = .tuple #[.pointer (some ⟨bv,0,none⟩),.agg ⟨iG (ir (bB d) n)⟩,.int .i64 (eR (bB d) n:Int)]∧d.length≤cap∧k.Ok 12∧
  F=⟨fun w=>By w k (bA d),[(bd,Row.c (d.map ao++Z)),(bv,Row.c (dX (.slice (some ⟨bd,0,none⟩) d.length cap) (bB d) (k.v 12)))]⟩
 else v = .tuple #[.pointer none,.agg ⟨iG (0,0,fun _=>0)⟩,.int .i64 (dM d:Int)]∧F=⟨fun _=>True,[]⟩
theorem gV (d:List UInt8) (h:Hd) (hh:h.Ok d.length) (hl:d.length≤1000000) (n:Int):af Tryz.prog 73 [h.v d.length,.int .i64 n] (fun w=>By w h d) (oD d n):=by
 refine af.aF ab Tryz.func73 rfl (by decide) (n:=Tryz.f73.ntmps - 2) rfl rfl fun w0 av=>?_
 conv=>whnf
 intro b5
 conv=>whnf
 refine ak.pure (rV d h hh hl) (fun w hw=>hw) (fun v D hv=>?_)
 unfold wN at hv
 split at hv
 · rename_i h0
   have hR : ∀ v F,_→oD d n v F:=fun v F h=>by
    unfold oD
    rw[if_pos h0]
    exact h
   generalize oD d n=RW at hR ⊢
   obtain⟨bd,bv,cap,Z,k,rfl,hcap,hk,rfl⟩:=hv
   generalize dM d=e at *
   have hvg:=An bv (.slice (some ⟨bd,0,none⟩) d.length cap) (bB d) (k.v 12) n
   generalize ir (bB d) n=i at *
   generalize eR (bB d) n=ge at *
   generalize hVe:dX (.slice (some ⟨bd,0,none⟩) d.length cap) (bB d) (k.v 12)=V at *
   conv=>whnf
   repeat (refine aa.of ?_;conv=>whnf)
   refine aH.no (by subst h0;simp[ar]) ?_
   conv=>whnf
   refine ak.look hvg (Loc.row _ _) (fun w hst=>bp.row (by simp[Fx.and]) w hst) ?_
   conv=>whnf
   repeat (refine aa.of ?_;conv=>whnf)
   intro b9
   conv=>whnf
   repeat (refine aa.of ?_;conv=>whnf)
   refine aI.draw ab mixed rfl rfl ?_
   conv=>whnf
   repeat' (first
    | (refine And.intro ?_ ?_<;>conv=>whnf)
    | (refine ax.same rfl ?_;conv=>whnf)
    | (refine ax.row rfl ?_;conv=>whnf)
    | (refine ax.call rfl ?_;conv=>whnf)
    | (refine bG.of ?_;conv=>whnf)
    | (refine aa.of ?_;conv=>whnf)
    | (refine ax.mk ?_ ?_;(focus (first | exact aq.refl _ | exact aq.left _ _ | exact aq.of_le ⟨List.sublist_append_left _ _,fun w h=>h⟩ | exact aq.of_le ⟨List.Sublist.refl _,fun w h=>h.1⟩));conv=>whnf))
   refine⟨⟨fun w=>By w k (bA d),[(bd,Row.c (d.map ao++Z)),(bv,Row.c V)]⟩,aq.of_le ⟨by simp[Fx.and],fun w hw=>hw.2⟩,hR _ _ ⟨bd,bv,cap,Z,k,rfl,hcap,hk,by rw[hVe]⟩⟩
 · rename_i h0
   have hR : ∀ v F,_→oD d n v F:=fun v F h=>by
    unfold oD
    rw[if_neg h0]
    exact h
   generalize oD d n=RW at hR ⊢
   obtain⟨rfl,rfl⟩:=hv
   generalize dM d=e at *
   conv=>whnf
   repeat (refine aa.of ?_;conv=>whnf)
   refine aH.yes (by simp[ar];omega) ?_
   conv=>whnf
   repeat (refine aa.of ?_;conv=>whnf)
   exact⟨⟨fun _=>True,[]⟩,aq.bare fun w _=>trivial,hR _ _ ⟨rfl,rfl⟩⟩
theorem tg (d:List UInt8) (n:Int) (h:dM d=0):eR (bB d) n=a7 d n:=by
 unfold a7
 rw[if_neg (show ¬ dM d≠0 by rw[h];simp)]
 rfl
theorem jl (d:List UInt8) (h:Hd) (hh:h.Ok d.length) (hl:d.length≤1000000) (n:Int) :
 af Tryz.prog 46 [h.v d.length,.int .i64 n] (fun w=>By w h d) (fun v F=>v = .tuple #[.agg ⟨na d n⟩,.int .i64 (a7 d n:Int)]):=by
 refine af.aF ab Tryz.func46 rfl (by decide) (n:=Tryz.f46.ntmps - 2) rfl rfl fun w0 av=>?_
 conv=>whnf
 intro b4
 conv=>whnf
 refine ak.val (gV d h hh hl n) (fun w hw=>hw) (fun v D hv=>?_)
 unfold oD at hv
 split at hv
 · rename_i h0
   obtain⟨bd,bv,cap,Z,k,rfl,hcap,hk,rfl⟩:=hv
   have hL:na d n=iG (ir (bB d) n):=by
    unfold na ir
    rw[tg d n h0]
    split<;>rfl
   rw[hL,← tg d n h0]
   generalize ir (bB d) n=i at *
   generalize eR (bB d) n=ge at *
   conv=>whnf
   repeat (refine aa.of ?_;conv=>whnf)
   intro b7
   conv=>whnf
   repeat (refine aa.of ?_;conv=>whnf)
   exact⟨_,aq.refl _,rfl⟩
 · rename_i h0
   obtain⟨rfl,rfl⟩:=hv
   have he:a7 d n=dM d:=by
    unfold a7
    rw[if_pos h0]
   have hL:na d n=iG (0,0,fun _=>0):=by
    unfold na
    rw[if_neg (by rw[he];exact h0)]
    rfl
   rw[hL,he]
   generalize dM d=e at *
   conv=>whnf
   repeat (refine aa.of ?_;conv=>whnf)
   intro b7
   conv=>whnf
   repeat (refine aa.of ?_;conv=>whnf)
   exact⟨_,aq.refl _,rfl⟩
theorem xn (i:iW):af Tryz.prog 123 [.agg ⟨iG i⟩] (fun w=>True) (fun v F=>v = .bool (decide (i.1=0))):=by
 refine af.aF ab Tryz.func123 rfl (by decide) (n:=Tryz.f123.ntmps - 1) rfl rfl fun w0 av=>?_
 conv=>whnf
 intro b1
 conv=>whnf
 repeat (refine aa.of ?_;conv=>whnf)
 exact⟨_,aq.refl _,congrArg Value.bool (dP i.1 0)⟩
theorem sB (bv:Nat) (X Y:Value) (d:List UInt8):af Tryz.prog 122 [.slice (some ⟨bv,1,none⟩) 32 32,.func (.func 123) #[] #[]] (fun w=>aB w (some ⟨bv,0,none⟩) (dX X (bB d) Y)) (fun v F=>v = .int .i64 (ib (fy d))):=by
 have ha:=fun m (hm:m<32)=>Cl X (bB d) Y hm
 generalize hVe:dX X (bB d) Y=V at *
 refine af.aF ab Tryz.func122 rfl (by decide) (n:=Tryz.f122.ntmps - 2) rfl rfl fun w0 av=>?_
 conv=>whnf
 refine aI.loop ab (ι:=Nat) ([5]++List.range' 8 11) (fun x=>x≤32∧∀ j,j<x→rk d j≠0)
  (fun x=>[(8,.v (.int .i64 (x:Int)))]) (fun _=>[]) (fun _=>⟨fun w=>aB w (some ⟨bv,0,none⟩) V,[]⟩)
  (fun x=>32 - x) 0 ⟨Nat.zero_le _,fun j hj=>by omega⟩ ?_ rfl (aq.refl _) fun i hi=>?_
 · conv=>whnf
   repeat (first | exact aw.nil | refine aw.any ?_ | refine aw.cons ?_)
 obtain⟨hi,hall⟩:=hi
 conv=>whnf
 refine aH.split (fun hlt=>?_) (fun hlt=>?_)
 · have hlt':i<32:=by
    simp only[au,decide_eq_true_eq] at hlt
    omega
   conv=>whnf
   repeat (refine aa.of ?_;conv=>whnf)
   refine aj.ah (ai.index ab (t:=169) rfl rfl rfl (by omega) (by omega) (fun h=>by cases h) fun ad had=>?_)
   obtain rfl:ad=⟨bv,1,none⟩:=by cases had;rfl
   conv=>whnf
   repeat (refine aa.of ?_;conv=>whnf)
   refine aj.ah (ai.kC ab (t:=82) rfl rfl (ad:=⟨bv,0,none⟩) (k:=1+14*i) (L:=V) (m:=iG (bB d i)) (.fact fun w hw=>hw) (by simp only[Addr.aV];congr 1;show 1+(Int.toNat (i:Int))*14=_;rw[Int.toNat_natCast];omega) (ha i hlt') rfl ?_)
   conv=>whnf
   repeat (refine aa.of ?_;conv=>whnf)
   refine ak.val (xn (bB d i)) (fun w hw=>trivial) (fun v D hv=>?_)
   generalize hz:decide ((bB d i).1=0)=cz at hv
   subst hv
   have hz2:cz=decide (rk d i=0):=hz.symm
   cases cz
   · have hz':rk d i≠0:=by simpa using hz2
     conv=>whnf
     refine⟨i+1,⟨⟨hlt',fun j hj=>?_⟩,by dsimp only;omega⟩,?_,?_,aq.refl _⟩
     · rcases Nat.lt_or_eq_of_le (Nat.lt_succ_iff.1 hj) with h1 | h1
       · exact hall j h1
       · rw[h1];exact hz'
     · conv=>whnf
       refine⟨?_,rfl⟩
       repeat (first | exact aw.nil | refine aw.any ?_ | refine aw.cons ?_ | refine aw.eq (by rw[wrap_i64 (by omega)];rfl) ?_)
     · conv=>whnf
       exact trivial
   · have hz':rk d i=0:=by simpa using hz2
     conv=>whnf
     refine⟨_,aq.refl _,?_⟩
     rw[my hlt' hall hz']
     rfl
 · have hie:i=32:=by
    simp only[au,decide_eq_false_iff_not] at hlt
    omega
   subst hie
   conv=>whnf
   refine⟨_,aq.refl _,?_⟩
   rw[rC hall]
   rfl
theorem jj {d:List UInt8} {n:Nat} (h:fy d=some n):n<32∧rk d n=0:=by
 unfold fy at h
 have h1:=List.mem_of_find?_eq_some h
 have h2:=List.find?_some h
 exact⟨List.mem_range.1 h1,by simpa using h2⟩
theorem oK (n:Nat):List.replicate n (Value.int .u8 0)=(List.replicate n (0:UInt8)).map ao:=by
 rw[List.map_replicate]
 rfl
theorem yj {d:List UInt8} (h0:dM d=0) {n:Nat} (hf:fy d=some n):aN d 1=(n,gl d (fN (bB d) n (1,0,fun _=>0)) (bA d),0):=by
 obtain⟨hd,hok⟩:=bl h0
 have hn:=(jj hf).1
 have hb:=aU hd
 rw[gP hok hd hb (fun m _ _=>rfl) hn]
 have hpl:=bf hd hn 1 0 (fun _=>0)
 have e:cD (cS d n 1 0 fun _=>0) (bA d)=cS d n 1 0 fun _=>0:=by
  refine bW (aP hpl hb |>.trans hpl.symm) fun m hm=>?_
  rw[aX hpl hb]
  by_cases h1:1664≤m∧m<1676
  · rw[if_pos h1,bO hd hn,if_neg (by omega)]
    unfold bA
    rw[a8 (by omega) (by omega)]
    congr 1
    omega
  · rw[if_neg h1]
 dsimp only
 rw[e]
 unfold aN
 rw[if_neg (show ¬ dM d≠0 by rw[h0];simp),hf]
 rfl
theorem yo {d:List UInt8} (h0:dM d=0) {n x:Nat} (hf:fy d=some n) (hx:cI (bA d)=some x) :
 aN d 2=(n,gl (lay d (128*x) (List.replicate 128 0)) (fN (bB d) n (2,128,fun i=>if i=0 then x else 0)) (cq (bA d) x true),0):=by
 obtain⟨hd,hok⟩:=bl h0
 have hn:=(jj hf).1
 obtain⟨hx1,hx2⟩:=dK hx
 have hb:=aU hd
 have hpb:(cq (bA d) x true).length=12:=by rw[bz,hb]
 have hz:(List.replicate 128 (0:UInt8)).length=128:=List.length_replicate
 have hel:(lay d (128*x) (List.replicate 128 0)).length=12288:=by rw[ct (by rw[hz];omega),hd]
 have hbe : ∀ m,aJ (lay d (128*x) (List.replicate 128 0)) m=if 128*x≤m∧m<128*x+128 then aJ (List.replicate 128 0) (m - 128*x) else aJ d m:=fun m=>by
  rw[cu (by rw[hz];omega),hz]
 rw[gP hok hel hpb (fun m h1 h2=>by rw[hbe,if_neg (by omega)]) hn]
 have e:cD (cS (lay d (128*x) (List.replicate 128 0)) n 2 128 fun i=>if i=0 then x else 0) (cq (bA d) x true)=cS (cG d x) n 2 128 fun i=>if i=0 then x else 0:=by
  have htl:=cY hd hx2
  have hp1:=bf hel hn 2 128 (fun i=>if i=0 then x else 0)
  have hp2:=bf htl hn 2 128 (fun i=>if i=0 then x else 0)
  have hsl:=aP hd hpb
  refine bW (by rw[aP hp1 hpb,hp2]) fun m hm=>?_
  rw[aX hp1 hpb,bO hel hn,bO htl hn,hbe]
  unfold cG
  rw[cu (by rw[hz];omega),hz,aX hd hpb]
  by_cases h1:1664≤m∧m<1676
  · rw[if_pos h1,if_neg (by omega),if_neg (by omega),if_pos h1]
  · rw[if_neg h1,if_neg h1]
 dsimp only
 rw[e]
 unfold aN
 rw[if_neg (show ¬ dM d≠0 by rw[h0];simp),hf]
 dsimp only
 rw[if_pos rfl,hx]
theorem vH {D:World→Prop} {b cap n e:Nat} {d:List UInt8} {Z:List Value} {m:Nat} (hm:m=d.length) (hc:m≤cap) : ∃ F',aq ⟨D,[(b,Row.c (d.map ao++Z))]⟩ F'∧qX n d e (.tuple #[.int .i64 (n:Int),.slice (some ⟨b,0,none⟩) m cap,.int .i64 (e:Int)]) F':=by
 subst hm
 exact⟨⟨fun w=>By w ⟨some ⟨b,0,none⟩,cap⟩ d,[]⟩,aq.kr (r1:=[]) (r2:=[]),⟨some ⟨b,0,none⟩,cap⟩,rfl,⟨fun h=>(by cases h),hc⟩,rfl⟩
theorem yN (d:List UInt8) (n:Nat):(bB d n).1≤1000000∧(bB d n).2.1≤1000000∧∀ i,(bB d n).2.2 i≤1000000:=by
 refine⟨?_,?_,fun i=>?_⟩
 · have:=lX d n
   show rk d n≤_
   omega
 · have:=vR d n
   show rs d n≤_
   omega
 · have:=pn d n i
   show rb d n i≤_
   omega
theorem gN {d:List UInt8} {n:Nat} {i:iW} (hi:i.1≤1000000∧i.2.1≤1000000∧∀ j,i.2.2 j≤1000000) (m:Nat):(fN (bB d) n i m).1≤1000000∧(fN (bB d) n i m).2.1≤1000000∧∀ j,(fN (bB d) n i m).2.2 j≤1000000:=by
 unfold fN
 split
 · exact hi
 · exact yN d m
theorem vt (d:List UInt8) (h:Hd) (hh:h.Ok d.length) (hl:d.length≤1000000) (kind:Nat) (hk:kind=1∨kind=2) :
 af Tryz.prog 71 [h.v d.length,.int .i64 (kind:Int)] (fun w=>By w h d) (qX (aN d kind).1 (aN d kind).2.1 (aN d kind).2.2):=by
 refine af.aF ab Tryz.func71 rfl (by decide) (n:=Tryz.f71.ntmps - 2) rfl rfl fun w0 av=>?_
 conv=>whnf
 refine ak.pure (rV d h hh hl) (fun w hw=>hw) (fun v D hv=>?_)
 unfold wN at hv
 split at hv
 rotate_left
 · rename_i h0
   obtain⟨rfl,rfl⟩:=hv
   have:aN d kind=(0,[],dM d):=by
    unfold aN
    rw[if_pos h0]
   rw[this]
   generalize dM d=e at *
   conv=>whnf
   repeat (refine aa.of ?_;conv=>whnf)
   refine aH.yes (by simp[ar];omega) ?_
   conv=>whnf
   repeat (refine aa.of ?_;conv=>whnf)
   exact dj
 rename_i h0
 obtain⟨hd,hok⟩:=bl h0
 obtain⟨bd,bv,cap,Z,kb,rfl,hcap,hkb,rfl⟩:=hv
 have hX : ∀ i Y,laid (dX (.slice (some ⟨bd,0,none⟩) d.length cap) (bB d) Y) (1+14*i)=laid (dX (.slice (some ⟨bd,0,none⟩) d.length cap) (bB d) Y) (1+14*i):=fun _ _=>rfl
 have hh0:(⟨some ⟨bd,0,none⟩,cap⟩:Hd).Ok d.length:=⟨fun h=>(by cases h),hcap⟩
 have hidx:=sB bv (.slice (some ⟨bd,0,none⟩) d.length cap) (kb.v 12) d
 have hbm:=aU hd
 obtain⟨e0,he0⟩ : ∃ e:Nat,e=dM d:=⟨_,rfl⟩
 rw[← he0]
 rw[h0] at he0
 conv=>whnf
 repeat (refine aa.of ?_;conv=>whnf)
 refine aH.no (by subst he0;simp[ar]) ?_
 conv=>whnf
 repeat (refine aa.of ?_;conv=>whnf)
 refine aH.no (by simp[ar];omega) ?_
 conv=>whnf
 repeat (refine aa.of ?_;conv=>whnf)
 refine aj.ah (ai.BS ab (t:=103) rfl rfl rfl rfl ?_)
 conv=>whnf
 repeat (refine aa.of ?_;conv=>whnf)
 refine ak.look hidx (Loc.row _ _) (fun w hst=>bp.row (by simp[Fx.and]) w hst) ?_
 cases hf:fy d with
 | none=>
  have:aN d kind=(0,[],13):=by
   unfold aN
   rw[if_neg (show ¬ dM d≠0 by rw[h0];simp),hf]
  rw[this]
  obtain⟨j,hj⟩ : ∃ j:Int,j=ib none:=⟨_,rfl⟩
  rw[← hj]
  conv=>whnf
  repeat (refine aa.of ?_;conv=>whnf)
  refine aH.yes (by subst hj;simp[au,ib]) ?_
  conv=>whnf
  repeat (refine aa.of ?_;conv=>whnf)
  exact dj
 | some n=>
  obtain⟨hn,hk0⟩:=jj hf
  have hfi:ib (some n)=(n:Int):=rfl
  rw[hfi]
  conv=>whnf
  repeat (refine aa.of ?_;conv=>whnf)
  refine aH.no (by simp[au]) ?_
  conv=>whnf
  repeat (refine aa.of ?_;conv=>whnf)
  intro b8
  conv=>whnf
  repeat (refine aa.of ?_;conv=>whnf)
  refine aH.split (fun hk2=>?_) (fun hk2=>?_)
  · have hk2':kind=2:=by
     simp[aD] at hk2
     omega
    obtain⟨one,hone⟩ : ∃ one:Int,one=1:=⟨_,rfl⟩
    have hvt:=yS bv (.slice (some ⟨bd,0,none⟩) d.length cap) (bB d) kb (bA d) hkb hbm one hone
    unfold Cn Cq at hvt
    rw[hone] at hvt
    cases hx:cI (bA d) with
    | none=>
     rw[hx] at hvt
     have:aN d kind=(0,[],13):=by
      unfold aN
      rw[if_neg (show ¬ dM d≠0 by rw[h0];simp),hf]
      dsimp only
      rw[if_pos hk2',hx]
     rw[this]
     conv=>whnf
     repeat (refine aa.of ?_;conv=>whnf)
     refine ak.rows (r1:=[(bd,Row.c (d.map ao++Z))]) (r2:=[]) hvt (fun w hw=>hw.2) (fun v F hv=>?_)
     obtain⟨r,hr,rfl,rfl⟩:=hv
     conv=>whnf
     repeat (refine aa.of ?_;conv=>whnf)
     refine aH.yes (by subst hr;rfl) ?_
     conv=>whnf
     repeat (refine aa.of ?_;conv=>whnf)
     exact dj
    | some x=>
     rw[hx] at hvt
     obtain⟨hx1,hx2⟩:=dK hx
     subst hk2'
     have hA:=yo h0 hf hx
     have hel:(lay d (128*x) (List.replicate 128 0)).length=d.length:=ct (by simp;omega)
     have hpb:(cq (bA d) x true).length=12:=by rw[bz,hbm]
     have hdl:=fP (by rw[hel];exact hd) (fN (bB d) n (2,128,fun i=>if i=0 then x else 0)) hpb
     have hlz:laid (d.map ao++Z) (128*x) (List.replicate 128 (.int .u8 0))=(lay d (128*x) (List.replicate 128 0)).map ao++Z:=by
      rw[oK,jW (by simp;omega)]
     rw[hA]
     dsimp only at hvt ⊢
     conv=>whnf
     repeat (refine aa.of ?_;conv=>whnf)
     refine ak.rows (r1:=[(bd,Row.c (d.map ao++Z))]) (r2:=[]) hvt (fun w hw=>hw.2) (fun v F hv=>?_)
     obtain⟨l,k2,r,hr,rfl,hlo,hk2o,rfl⟩:=hv
     have hvs:=mF (.slice (some ⟨bd,0,none⟩) d.length cap) (bB d) (k2.v 12) hn (2,128,fun i=>if i=0 then x else 0)
     have hvl:=fh (.slice (some ⟨bd,0,none⟩) d.length cap) (bB d) (k2.v 12)
     have hdn:=fQ bd bv cap (lay d (128*x) (List.replicate 128 0)) Z (by rw[hel];exact hd) (by rw[hel];exact hcap) (fN (bB d) n (2,128,fun i=>if i=0 then x else 0)) (gN ⟨by show 2≤1000000;decide,by show 128≤1000000;decide,fun j=>by dsimp only;split<;>omega⟩) k2 hk2o (cq (bA d) x true) hpb
     rw[hel] at hdn
     have h00:(dX (.slice (some ⟨bd,0,none⟩) d.length cap) (bB d) (k2.v 12))[0]? = some (.slice (some ⟨bd,0,none⟩) d.length cap):=rfl
     have hvb:=du bv _ ⟨some ⟨bd,0,none⟩,cap⟩ d.length h00 hh0 hd x hx2
     generalize gl (lay d (128*x) (List.replicate 128 0)) (fN (bB d) n (2,128,fun i=>if i=0 then x else 0)) (cq (bA d) x true)=dd at *
     generalize lay d (128*x) (List.replicate 128 0)=d2 at *
     generalize cq (bA d) x true=bits at *
     generalize dX (.slice (some ⟨bd,0,none⟩) d.length cap) (fN (bB d) n (2,128,fun i=>if i=0 then x else 0)) (k2.v 12)=V2 at *
     generalize dX (.slice (some ⟨bd,0,none⟩) d.length cap) (bB d) (k2.v 12)=V at *
     conv=>whnf
     repeat (refine aa.of ?_;conv=>whnf)
     refine aH.no (by subst hr;rfl) ?_
     conv=>whnf
     repeat (refine aa.of ?_;conv=>whnf)
     refine aI.draw ab mixed rfl rfl ?_
     conv=>whnf
     repeat' (first
      | (refine And.intro ?_ ?_<;>conv=>whnf)
      | (refine ax.same rfl ?_;conv=>whnf)
      | (refine ax.row rfl ?_;conv=>whnf)
      | (refine ax.call rfl ?_;conv=>whnf)
      | (refine bG.of ?_;conv=>whnf)
      | (refine aa.of ?_;conv=>whnf)
      | (refine ai.index ab (t:=97) rfl rfl rfl (by omega) (by omega) hlo.nil fun ad had=>?_;conv=>whnf)
      | (refine ai.load ab (t:=3) rfl rfl (ad:=ad) (k:=0) (L:=[aE x]) (v:=aE x) (.fact fun w hw=>had ▸ hw.2.1) rfl rfl ?_;conv=>whnf)
      | (refine ax.mk ?_ ?_;(focus (first | exact aq.refl _ | exact aq.left _ _ | exact aq.of_le ⟨List.sublist_append_left _ _,fun w h=>h⟩ | exact aq.of_le ⟨List.Sublist.refl _,fun w h=>h.1⟩));conv=>whnf))
     all_goals
      refine aj.ah (ai.index ab (t:=97) rfl rfl rfl (by omega) (by omega) hlo.nil fun ad had=>?_)
      conv=>whnf
      repeat (refine aa.of ?_;conv=>whnf)
      refine aj.ah (ai.load ab (t:=3) rfl rfl (ad:=ad) (k:=0) (L:=[aE x]) (v:=aE x) (.fact fun w hw=>had ▸ hw.2.1) rfl rfl ?_)
      conv=>whnf
      repeat (refine aa.of ?_;conv=>whnf)
      refine ak.look hvb (Loc.row _ _) (fun w hst=>bp.row (by simp) w hst) ?_
      rw[dO (by omega)]
      conv=>whnf
      repeat (refine aa.of ?_;conv=>whnf)
      refine aj.B3 ab (t:=23) rfl rfl rfl rfl (z:=.int .u8 0) rfl rfl (r1:=[]) (r2:=[(bv,Row.c V)]) (b:=bd) (k:=128*x) (C:=d.map ao++Z) rfl (by decide) (by simp;omega) ?_
      rw[hlz]
      conv=>whnf
      repeat (refine aa.of ?_;conv=>whnf)
      refine aI.draw ab mixed rfl rfl ?_
      conv=>whnf
      repeat' (first
       | (refine And.intro ?_ ?_<;>conv=>whnf)
       | (refine ax.same rfl ?_;conv=>whnf)
       | (refine ax.row rfl ?_;conv=>whnf)
       | (refine ax.call rfl ?_;conv=>whnf)
       | (refine bG.of ?_;conv=>whnf)
       | (refine aa.of ?_;conv=>whnf)
       | (refine ai.dk ab (t:=103) rfl rfl rfl n rfl hn rfl ?_;conv=>whnf)
       | (refine ax.mk ?_ ?_;(focus (first | exact aq.refl _ | exact aq.left _ _ | exact aq.of_le ⟨List.sublist_append_left _ _,fun w h=>h⟩ | exact aq.of_le ⟨List.Sublist.refl _,fun w h=>h.1⟩));conv=>whnf))
      refine a_.cE ab (t:=82) rfl (r1:=[(bd,Row.c (d2.map ao++Z))]) (r2:=[]) (b:=bv) (k:=1+14*n) (C:=V) (v:=.agg ⟨bg 2 128 fun i=>if i=0 then x else 0⟩) (by show(Addr.add ⟨bv,0,none⟩ 1).add (n*14)=_;simp only[Addr.aV];rw[Nat.zero_add,Nat.mul_comm]) rfl (by simp[Value.cells,bg,aE,aO]) (by rw[hvl];show _+14≤_;omega) ?_
      rw[show laid V (1+14*n) (Value.agg ⟨bg 2 128 fun i=>if i=0 then x else 0⟩).cells.toList=V2 from hvs]
      conv=>whnf
      repeat (refine aa.of ?_;conv=>whnf)
      refine ak.rows (r1:=[]) (r2:=[]) hdn (fun w hw=>hw.2.2) (fun v F hv=>?_)
      obtain⟨rfl,rfl⟩:=hv
      conv=>whnf
      repeat (refine aa.of ?_;conv=>whnf)
      exact vH (by omega) hcap
  · have hk2':kind=1:=by
     simp[aD] at hk2
     omega
    subst hk2'
    have hA:=yj h0 hf
    have hdl:=fP hd (fN (bB d) n (1,0,fun i=>0)) hbm
    have hvs:=mF (.slice (some ⟨bd,0,none⟩) d.length cap) (bB d) (kb.v 12) hn (1,0,fun i=>0)
    have hvl:=fh (.slice (some ⟨bd,0,none⟩) d.length cap) (bB d) (kb.v 12)
    have hdn:=fQ bd bv cap d Z hd hcap (fN (bB d) n (1,0,fun i=>0)) (gN ⟨by decide,by decide,fun j=>Nat.zero_le _⟩) kb hkb (bA d) hbm
    rw[hA]
    dsimp only
    generalize gl d (fN (bB d) n (1,0,fun i=>0)) (bA d)=dd at *
    generalize dX (.slice (some ⟨bd,0,none⟩) d.length cap) (fN (bB d) n (1,0,fun i=>0)) (kb.v 12)=V2 at *
    generalize dX (.slice (some ⟨bd,0,none⟩) d.length cap) (bB d) (kb.v 12)=V at *
    conv=>whnf
    repeat (refine aa.of ?_;conv=>whnf)
    refine aI.draw ab mixed rfl rfl ?_
    conv=>whnf
    repeat' (first
     | (refine And.intro ?_ ?_<;>conv=>whnf)
     | (refine ax.same rfl ?_;conv=>whnf)
     | (refine ax.row rfl ?_;conv=>whnf)
     | (refine ax.call rfl ?_;conv=>whnf)
     | (refine bG.of ?_;conv=>whnf)
     | (refine aa.of ?_;conv=>whnf)
     | (refine ai.dk ab (t:=103) rfl rfl rfl n rfl hn rfl ?_;conv=>whnf)
     | (refine ax.mk ?_ ?_;(focus (first | exact aq.refl _ | exact aq.left _ _ | exact aq.of_le ⟨List.sublist_append_left _ _,fun w h=>h⟩ | exact aq.of_le ⟨List.Sublist.refl _,fun w h=>h.1⟩));conv=>whnf))
    refine a_.cE ab (t:=82) rfl (r1:=[(bd,Row.c (d.map ao++Z))]) (r2:=[]) (b:=bv) (k:=1+14*n) (C:=V) (v:=.agg ⟨bg 1 0 fun i=>0⟩) (by show(Addr.add ⟨bv,0,none⟩ 1).add (n*14)=_;simp only[Addr.aV];rw[Nat.zero_add,Nat.mul_comm]) rfl (by simp[Value.cells,bg,aE,aO]) (by rw[hvl];show _+14≤_;omega) ?_
    rw[show laid V (1+14*n) (Value.agg ⟨bg 1 0 fun i=>0⟩).cells.toList=V2 from hvs]
    conv=>whnf
    repeat (refine aa.of ?_;conv=>whnf)
    refine ak.rows (r1:=[]) (r2:=[]) hdn (fun w hw=>hw.2) (fun v F hv=>?_)
    obtain⟨rfl,rfl⟩:=hv
    conv=>whnf
    repeat (refine aa.of ?_;conv=>whnf)
    exact vH (by omega) hcap
def cB (B:List UInt8) (b:Nat→Nat):Nat→List UInt8
 | 0=>B
 | i+1=>if b i=0 then cB B b i else cq (cB B b i) (b i) false
theorem eJ {B:List UInt8} (hB:B.length=12) (b:Nat→Nat) : ∀ i,(cB B b i).length=12
 | 0=>hB
 | i+1=>by
  unfold cB
  split
  · exact eJ hB b i
  · rw[bz,eJ hB b i]
theorem zk {d B:List UInt8} (hd:d.length=12288) (hB:B.length=12):bA (cD d B)=B:=by
 have hl:=aP hd hB
 refine bW (by rw[aU hl,hB]) fun i hi=>?_
 rw[aU hl] at hi
 unfold bA
 rw[a8 (by omega) hi,aX hd hB,if_pos (by omega)]
 congr 1
 omega
theorem set_set {d B C:List UInt8} (hd:d.length=12288) (hB:B.length=12) (hC:C.length=12):cD (cD d B) C=cD d C:=by
 have hl:=aP hd hB
 refine bW (by rw[aP hl hC,aP hd hC]) fun i hi=>?_
 rw[aX hl hC,aX hd hC,aX hd hB]
 by_cases h:1664≤i∧i<1676
 · rw[if_pos h,if_pos h]
 · rw[if_neg h,if_neg h]
   rw[if_neg h]
theorem wQ {d:List UInt8} (hd:d.length=12288):cD d (bA d)=d:=by
 have hb:=aU hd
 refine bW (by rw[aP hd hb,hd]) fun i hi=>?_
 rw[aX hd hb]
 by_cases h:1664≤i∧i<1676
 · rw[if_pos h]
   unfold bA
   rw[a8 (by omega) (by omega)]
   congr 1
   omega
 · rw[if_neg h]
theorem lv {d:List UInt8} (hd:d.length=12288) (b:Nat→Nat) : ∀ i,cw d b i=cD d (cB (bA d) b i)
 | 0=>(wQ hd).symm
 | i+1=>by
  have hl:=eJ (aU hd) b i
  unfold cw cB
  rw[lv hd b i]
  split
  · rfl
  · unfold zL
    rw[zk hd hl,set_set hd hl (by rw[bz,hl])]
theorem yi {d:List UInt8} (hd:d.length=12288) (hok:eZ d) {n:Nat} (hn:n<32) (b:Nat→Nat) :
 cS (cw d b 12) n 0 0 (fun _=>0)=gl d (fN (bB d) n (0,0,fun _=>0)) (cB (bA d) b 12):=by
 have hl:=eJ (aU hd) b 12
 rw[gP hok hd hl (fun m _ _=>rfl) hn,lv hd]
 generalize cB (bA d) b 12=B at *
 have h1:=aP hd hl
 have h2:=bf hd hn 0 0 (fun _=>0)
 refine bW (by rw[bf h1 hn,aP h2 hl]) fun m hm=>?_
 dsimp only
 rw[bO h1 hn,aX h2 hl,aX hd hl,bO hd hn]
 by_cases h:1664≤m∧m<1676
 · rw[if_neg (by omega),if_pos h,if_pos h]
 · rw[if_neg h,if_neg h]
theorem jG {D:World→Prop} {b cap e:Nat} {d:List UInt8} {Z:List Value} {m:Nat} (hm:m=d.length) (hc:m≤cap) : ∃ F',aq ⟨D,[(b,Row.c (d.map ao++Z))]⟩ F'∧fJ d e (.tuple #[.slice (some ⟨b,0,none⟩) m cap,.int .i64 (e:Int)]) F':=by
 subst hm
 exact⟨⟨fun w=>By w ⟨some ⟨b,0,none⟩,cap⟩ d,[]⟩,aq.kr (r1:=[]) (r2:=[]),⟨some ⟨b,0,none⟩,cap⟩,rfl,⟨fun h=>(by cases h),hc⟩,rfl⟩
theorem kP {d:List UInt8} {m:Nat} (hm:m<32) (hk:rk d m≠0):eR (bB d) (m:Int)=0∧ir (bB d) (m:Int)=(rk d m,rs d m,rb d m):=by
 have h0:eR (bB d) (m:Int)=0:=by
  unfold eR
  rw[if_neg (by omega),if_neg (by exact hk)]
 refine⟨h0,?_⟩
 unfold ir
 rw[if_pos h0]
 rfl
theorem yh (d:List UInt8) (h:Hd) (hh:h.Ok d.length) (hl:d.length≤1000000) (n:Nat) :
 af Tryz.prog 95 [h.v d.length,.int .i64 (n:Int)] (fun w=>By w h d) (fJ (ey d n).1 (ey d n).2):=by
 refine af.aF ab Tryz.func95 rfl (by decide) (n:=Tryz.f95.ntmps - 2) rfl rfl fun w0 av=>?_
 conv=>whnf
 refine ak.pure (gV d h hh hl n) (fun w hw=>hw) (fun v D hv=>?_)
 unfold oD at hv
 split at hv
 rotate_left
 · rename_i h0
   obtain⟨rfl,rfl⟩:=hv
   have he:a7 d n=dM d:=by
    unfold a7
    rw[if_pos h0]
   have:ey d n=([],dM d):=by
    unfold ey
    rw[if_pos (by rw[he];exact h0),he]
   rw[this]
   generalize dM d=e at *
   conv=>whnf
   repeat (refine aa.of ?_;conv=>whnf)
   intro b7
   conv=>whnf
   repeat (refine aa.of ?_;conv=>whnf)
   refine aH.yes (by simp[ar];omega) ?_
   conv=>whnf
   repeat (refine aa.of ?_;conv=>whnf)
   exact bN
 rename_i h0
 obtain⟨hd,hok⟩:=bl h0
 obtain⟨bd,bv,cap,Z,kb,rfl,hcap,hkb,rfl⟩:=hv
 have hge:=tg d n h0
 by_cases hg:a7 d (n:Int)=0
 rotate_left
 · have:ey d n=([],a7 d n):=by
    unfold ey
    rw[if_pos hg]
   rw[this]
   rw[hge]
   generalize a7 d (n:Int)=e at *
   generalize ir (bB d) (n:Int)=i
   conv=>whnf
   repeat (refine aa.of ?_;conv=>whnf)
   intro b7
   conv=>whnf
   repeat (refine aa.of ?_;conv=>whnf)
   refine aH.yes (by simp[ar];omega) ?_
   conv=>whnf
   repeat (refine aa.of ?_;conv=>whnf)
   exact bN
 obtain⟨-,-,m,hm,hm32,hrk⟩:=cd hg
 obtain rfl:n=m:=by omega
 obtain⟨e1,e2⟩:=kP hm32 hrk
 obtain⟨e0,he0⟩ : ∃ e:Nat,e=eR (bB d) (n:Int):=⟨_,rfl⟩
 rw[← he0,e2]
 rw[e1] at he0
 by_cases hn0:n=0
 · have:ey d n=([],12):=by
    unfold ey
    rw[if_neg (by rw[hg];simp),if_pos hn0]
   rw[this]
   conv=>whnf
   repeat (refine aa.of ?_;conv=>whnf)
   intro b7
   conv=>whnf
   repeat (refine aa.of ?_;conv=>whnf)
   refine aH.no (by subst he0;simp[ar]) ?_
   conv=>whnf
   repeat (refine aa.of ?_;conv=>whnf)
   refine aH.yes (by subst hn0;simp[aD]) ?_
   conv=>whnf
   repeat (refine aa.of ?_;conv=>whnf)
   exact bN
 have hF:ey d n=(cS (cw d (rb d n) 12) n 0 0 (fun _=>0),0):=by
  unfold ey
  rw[if_neg (by rw[hg];simp),if_neg hn0]
 rw[yi hd hok hm32] at hF
 rw[hF]
 have hbm:=aU hd
 have hB:=eJ hbm (rb d n)
 have hB0:cB (bA d) (rb d n) 0=bA d:=rfl
 have hBn : ∀ i,cB (bA d) (rb d n) (i+1)=if rb d n i=0 then cB (bA d) (rb d n) i else cq (cB (bA d) (rb d n) i) (rb d n i) false:=fun i=>rfl
 have hbl : ∀ i,i<12→rb d n i<96:=fun i hi=>eo hok hm32 hi
 have hdl:=fP hd (fN (bB d) n (0,0,fun _=>0)) (hB 12)
 have hdn:=fun k hk=>fQ bd bv cap d Z hd hcap (fN (bB d) n (0,0,fun _=>0)) (gN ⟨Nat.zero_le _,Nat.zero_le _,fun j=>Nat.zero_le _⟩) k hk (cB (bA d) (rb d n) 12) (hB 12)
 have hvs:=fun Y=>mF (.slice (some ⟨bd,0,none⟩) d.length cap) (bB d) Y hm32 (0,0,fun _=>0)
 have hvl:=fun Y=>fh (.slice (some ⟨bd,0,none⟩) d.length cap) (bB d) Y
 have hdr:=fun k i=>s5 bv (.slice (some ⟨bd,0,none⟩) d.length cap) (bB d) k (cB (bA d) (rb d n) i)
 unfold Cq at hdr
 dsimp only
 generalize gl d (fN (bB d) n (0,0,fun _=>0)) (cB (bA d) (rb d n) 12)=dd at *
 generalize cB (bA d) (rb d n)=BA at *
 generalize dX (.slice (some ⟨bd,0,none⟩) d.length cap) (fN (bB d) n (0,0,fun _=>0))=V2 at *
 generalize dX (.slice (some ⟨bd,0,none⟩) d.length cap) (bB d)=V at *
 generalize rk d n=k at *
 generalize rs d n=s at *
 generalize rb d n=b at *
 conv=>whnf
 repeat (refine aa.of ?_;conv=>whnf)
 intro b7
 conv=>whnf
 repeat (refine aa.of ?_;conv=>whnf)
 refine aH.no (by subst he0;simp[ar]) ?_
 conv=>whnf
 repeat (refine aa.of ?_;conv=>whnf)
 refine aH.no (by simp[aD];omega) ?_
 conv=>whnf
 repeat (refine aa.of ?_;conv=>whnf)
 refine aI.loop ab (ι:=Nat×Hd) ([10]++List.range' 25 7) (fun x=>x.1≤12∧x.2.Ok 12)
  (fun x=>[(25,.v (.int .i64 (x.1:Int)))]) (fun _=>[bg k s b]) (fun x=>⟨fun w=>By w x.2 (BA x.1),[(bd,Row.c (d.map ao++Z))] ++ [(bv,Row.c (V (x.2.v 12)))] ++ []⟩)
  (fun x=>12 - x.1) (0,kb) ⟨Nat.zero_le _,hkb⟩ ?_ rfl (aq.of_le ⟨by simp[Fx.and],fun w hw=>by dsimp only;rw[hB0];exact hw.2⟩) fun x hx=>?_
 · conv=>whnf
   repeat (first | exact aw.nil | refine aw.any ?_ | refine aw.cons ?_)
 obtain⟨i,kk⟩:=x
 obtain⟨hi,hkk⟩:=hx
 dsimp only at hi hkk ⊢
 conv=>whnf
 refine aH.split (fun hlt=>?_) (fun hlt=>?_)
 · have hlt':i<12:=by
    simp only[au,decide_eq_true_eq] at hlt
    omega
   have hbi:=hbl i hlt'
   have hdr':=hdr kk i hkk (hB i) (b i) hbi
   rw[← hBn] at hdr'
   conv=>whnf
   repeat (refine aa.of ?_;conv=>whnf)
   refine aj.ah (ai.nA ab (t:=72) rfl rfl rfl rfl rfl i rfl hlt' (pF hlt') ?_)
   conv=>whnf
   repeat (refine aa.of ?_;conv=>whnf)
   refine ak.rows hdr' (fun w hw=>hw) (fun v F hv=>?_)
   obtain⟨k2,hk2,rfl⟩:=hv
   conv=>whnf
   repeat (refine aa.of ?_;conv=>whnf)
   refine⟨(i+1,k2),⟨⟨hlt',hk2⟩,by dsimp only;omega⟩,?_,?_,aq.of_le ⟨List.Sublist.refl _,fun w hw=>hw.2⟩⟩
   · conv=>whnf
     refine⟨?_,rfl⟩
     repeat (first | exact aw.nil | refine aw.any ?_ | refine aw.cons ?_ | refine aw.eq (by rw[wrap_i64 (by omega)];rfl) ?_)
   · conv=>whnf
     exact⟨⟨rfl,rfl⟩,trivial⟩
 · have hie:i=12:=by
    simp only[au,decide_eq_false_iff_not] at hlt
    omega
   subst hie
   have hdn':=hdn kk hkk
   conv=>whnf
   repeat (refine aa.of ?_;conv=>whnf)
   refine aj.ah (ai.dk ab (t:=103) rfl rfl rfl n rfl hm32 rfl ?_)
   conv=>whnf
   repeat (refine aa.of ?_;conv=>whnf)
   refine a_.cE ab (t:=82) rfl (r1:=[(bd,Row.c (d.map ao++Z))]) (r2:=[]) (b:=bv) (k:=1+14*n) (C:=V (kk.v 12)) (v:=.agg ⟨bg 0 0 fun i=>0⟩) (by show(Addr.add ⟨bv,0,none⟩ 1).add (n*14)=_;simp only[Addr.aV];rw[Nat.zero_add,Nat.mul_comm]) rfl (by simp[Value.cells,bg,aE,aO]) (by rw[hvl];show _+14≤_;omega) ?_
   rw[show laid (V (kk.v 12)) (1+14*n) (Value.agg ⟨bg 0 0 fun i=>0⟩).cells.toList=V2 (kk.v 12) from hvs _]
   conv=>whnf
   repeat (refine aa.of ?_;conv=>whnf)
   refine ak.rows (r1:=[]) (r2:=[]) hdn' (fun w hw=>hw) (fun v F hv=>?_)
   obtain⟨rfl,rfl⟩:=hv
   conv=>whnf
   repeat (refine aa.of ?_;conv=>whnf)
   exact jG (by omega) hcap
theorem vS (bv:Nat) (zero:Int) (hz:zero=0):af Tryz.prog 75 [.pointer (some ⟨bv,0,none⟩),.int .i64 zero] (fun w=>True) (fun v F=>∃ r:Bool,r=true∧v = .tuple #[.slice none 0 0,.bool r]):=by
 refine af.aF ab Tryz.func75 rfl (by decide) (n:=Tryz.f75.ntmps - 2) rfl rfl fun w0 av=>?_
 conv=>whnf
 repeat (refine aa.of ?_;conv=>whnf)
 refine aH.yes (by subst hz;simp[aD]) ?_
 conv=>whnf
 repeat (refine aa.of ?_;conv=>whnf)
 exact⟨_,aq.refl _,true,rfl,rfl⟩
def A1 (d:List UInt8) (at':Nat) (data:List UInt8):Nat→List UInt8
 | 0=>d
 | k+1=>dm (A1 d at' data k) (at'+k) (aJ data k)
theorem pZ (d:List UInt8) (a:Nat) (data:List UInt8) : ∀ k,(A1 d a data k).length=d.length
 | 0=>rfl
 | k+1=>by unfold A1;rw[dn,pZ d a data k]
theorem zB {d data:List UInt8} {a:Nat} (h:a+data.length≤d.length) : ∀ {k:Nat},k≤data.length→∀ m,aJ (A1 d a data k) m=if a≤m∧m<a+k then aJ data (m - a) else aJ d m
 | 0,_,m=>by
  rw[if_neg (by omega)]
  rfl
 | k+1,hk,m=>by
  unfold A1
  rw[dy (by rw[pZ];omega) (bJ _ _),zB h (show k≤data.length by omega)]
  by_cases h1:m=a+k
  · subst h1
    rw[if_pos rfl,if_pos (by omega),show a+k - a=k by omega]
  · rw[if_neg h1]
    by_cases h2:a≤m∧m<a+k
    · rw[if_pos h2,if_pos (by omega)]
    · rw[if_neg h2,if_neg (by omega)]
theorem Di {d data:List UInt8} {a:Nat} (h:a+data.length≤d.length):A1 d a data data.length=lay d a data:=by
 refine bW (by rw[pZ,ct h]) fun m hm=>?_
 rw[zB h (Nat.le_refl _),cu h]
theorem Bv {d e:List UInt8} (hok:eZ d) (hd:d.length=12288) (he:e.length=12288) (hin : ∀ m,1664≤m→m<2304→aJ e m=aJ d m) {n:Nat} (hn:n<32) :
 gl e (fN (bB d) n (rk d n,rs d n,rb d n)) (bA d)=e:=by
 have hb:=aU hd
 rw[gP hok he hb (fun m h1 h2=>hin m (by omega) h2) hn]
 have h1:=bf he hn (rk d n) (rs d n) (rb d n)
 refine bW (by rw[aP h1 hb,he]) fun m hm=>?_
 dsimp only
 rw[aX h1 hb,bO he hn]
 by_cases h2:1664≤m∧m<1676
 · rw[if_pos h2,hin m (by omega) (by omega)]
   unfold bA
   rw[a8 (by omega) (by omega)]
   congr 1
   omega
 · rw[if_neg h2]
   by_cases h3:1792+16*n≤m∧m<1792+16*n+16
   · rw[if_pos h3,hin m (by omega) (by omega)]
     have hf:=hok.form n hn
     unfold cH at hf
     rw[Bool.and_eq_true,decide_eq_true_eq] at hf
     rw[qZ hf.1 (by omega)]
     congr 1
     omega
   · rw[if_neg h3]
theorem iy {d:List UInt8} (hok:eZ d) {n:Nat} (hn:n<32) (hk:rk d n=2):rs d n=128∧18≤rb d n 0∧rb d n 0<96:=by
 have hf:=hok.form n hn
 have hb:=bD hf 0 (by decide)
 unfold cH at hf
 rw[Bool.and_eq_true] at hf
 have h2:=hf.2
 split at h2
 · rename_i hz
   have:=(cW.1 hz).1
   omega
 · rw[decide_eq_true_eq] at h2
   have:=h2.2.2.2.2.2
   have h3:rs d n=128∧rb d n 0≠0:=by omega
   have:=hb h3.2
   omega
def eX (d:List UInt8) (n i:Nat) (data:List UInt8):List UInt8:=lay d (128*rb d n 0+16*i) data
theorem mT {d:List UInt8} (hd:d.length=12288) (hok:eZ d) {n:Nat} (hn:n<32) (hk:rk d n=2) {i:Nat} (hi:i<8) {data:List UInt8} (hdl:data.length=16):(eX d n i data).length=12288:=by
 obtain⟨h1,h2,h3⟩:=iy hok hn hk
 unfold eX
 rw[ct (by omega),hd]
theorem wX (d:List UInt8) (h:Hd) (hh:h.Ok d.length) (h0:dM d=0) (n:Nat) (hn:n<32) (hk2:rk d n=2) (i:Nat) (hi:i<8) (data:List UInt8) (kd:Hd) (hkd:kd.Ok data.length) (hdl:data.length=16) (off:Int) (ho:off=((16*i:Nat):Int)) :
 af Tryz.prog 34 [h.v d.length,.int .i64 (n:Int),.int .i64 off,kd.v data.length] (fun w=>By w h d∧By w kd data) (fJ (eX d n i data) 0):=by
 obtain⟨hd,hok⟩:=bl h0
 obtain⟨hs,hb1,hb2⟩:=iy hok hn hk2
 refine af.aF ab Tryz.func34 rfl (by decide) (n:=Tryz.f34.ntmps - 4) rfl rfl fun w0 av=>?_
 conv=>whnf
 refine ak.pure (gV d h hh (by omega) n) (fun w hw=>hw.1) (fun v D hv=>?_)
 unfold oD at hv
 rw[if_pos h0] at hv
 obtain⟨bd,bv,cap,Z,kb,rfl,hcap,hkb,rfl⟩:=hv
 obtain⟨e1,e2⟩:=kP hn (show rk d n≠0 by omega)
 obtain⟨e0,he0⟩ : ∃ e:Nat,e=eR (bB d) (n:Int):=⟨_,rfl⟩
 rw[← he0,e2]
 rw[e1] at he0
 have hbm:=aU hd
 have hwl:=mT hd hok hn hk2 hi hdl
 have hdid:=Bv (e:=eX d n i data) hok hd hwl (fun m h1 h2=>by
  unfold eX
  rw[cu (by omega),if_neg (by omega)]) hn
 have hdn:=fQ bd bv cap (eX d n i data) Z hwl (by omega) (fN (bB d) n (rk d n,rs d n,rb d n)) (gN ⟨by have:=lX d n;dsimp only;omega,by dsimp only;omega,fun j=>by have:=pn d n j;dsimp only;omega⟩) kb hkb (bA d) hbm
 have hwd:(eX d n i data).length=d.length:=hwl.trans hd.symm
 rw[hdid,hwd] at hdn
 have hvs:=mF (.slice (some ⟨bd,0,none⟩) d.length cap) (bB d) (kb.v 12) hn (rk d n,rs d n,rb d n)
 have hvl:=fh (.slice (some ⟨bd,0,none⟩) d.length cap) (bB d) (kb.v 12)
 have hv00:(dX (.slice (some ⟨bd,0,none⟩) d.length cap) (bB d) (kb.v 12))[0]? = some (.slice (some ⟨bd,0,none⟩) d.length cap):=rfl
 have hok0:(⟨some ⟨bd,0,none⟩,cap⟩:Hd).Ok d.length:=⟨fun h=>(by cases h),hcap⟩
 have hvb:=du bv _ ⟨some ⟨bd,0,none⟩,cap⟩ d.length hv00 hok0 hd (rb d n 0) hb2
 have hwall:A1 d (128*rb d n 0+16*i) data data.length=eX d n i data:=Di (by omega)
 have hwpl:=pZ d (128*rb d n 0+16*i) data
 have hwp0:A1 d (128*rb d n 0+16*i) data 0=d:=rfl
 have hwpn : ∀ k,A1 d (128*rb d n 0+16*i) data (k+1)=dm (A1 d (128*rb d n 0+16*i) data k) (128*rb d n 0+16*i+k) (aJ data k):=fun k=>rfl
 generalize eX d n i data=dd at *
 generalize A1 d (128*rb d n 0+16*i) data=pw at *
 generalize dX (.slice (some ⟨bd,0,none⟩) d.length cap) (fN (bB d) n (rk d n,rs d n,rb d n)) (kb.v 12)=V2 at *
 generalize dX (.slice (some ⟨bd,0,none⟩) d.length cap) (bB d) (kb.v 12)=V at *
 generalize rk d n=k at *
 generalize rs d n=s at *
 generalize rb d n=b at *
 conv=>whnf
 repeat (refine aa.of ?_;conv=>whnf)
 intro b11
 conv=>whnf
 repeat (refine aa.of ?_;conv=>whnf)
 refine aH.no (by subst he0;simp[ar]) ?_
 conv=>whnf
 repeat (refine aa.of ?_;conv=>whnf)
 refine aH.yes (by subst hk2;simp[aD]) ?_
 conv=>whnf
 repeat (refine aa.of ?_;conv=>whnf)
 refine aH.no (by subst ho;rw[au,decide_eq_false_iff_not];omega) ?_
 conv=>whnf
 repeat (refine aa.of ?_;conv=>whnf)
 refine aH.no (by simp only[aD,beq_eq_false_iff_ne,ne_eq];omega) ?_
 conv=>whnf
 repeat (refine aa.of ?_;conv=>whnf)
 generalize hr:(yq _ _||_)=r
 cases r
 rotate_left
 · exfalso
   simp only[bP,Bool.or_eq_true,decide_eq_true_eq] at hr
   rw[wrap_i64 (by omega)] at hr
   omega
 conv=>whnf
 repeat (refine aa.of ?_;conv=>whnf)
 have hq0:IntKind.i64.wrap (Int.tdiv off (Int.ofNat 128))=((16*i/128:Nat):Int):=by subst ho;exact kI (16*i) 128 (by omega)
 rw[hq0]
 refine aI.loop ab (ι:=Nat) ([14,15]++List.range' 61 18) (fun x=>x≤1)
  (fun x=>[(14,.v (.slice none 0 0)),(15,.v (.int .i64 (x:Int)))]) (fun _=>[bg k s b]) (fun x=>⟨fun w=>By w kb (bA d)∧By w kd data,[(bd,Row.c (d.map ao++Z)),(bv,Row.c V)]⟩)
  (fun x=>1 - x) (16*i/128) (by omega) ?_ rfl (aq.of_le ⟨by simp[Fx.and],fun w hw=>⟨hw.2,hw.1.2⟩⟩) fun x hx=>?_
 · conv=>whnf
   repeat (first | exact aw.nil | refine aw.any ?_ | refine aw.cons ?_)
 have hps:=gZ (16*i+data.length) (by omega)
 have hsum:IntKind.i64.wrap (off+(data.length:Int))=((16*i+data.length:Nat):Int):=by
  rw[wrap_i64 (by omega)]
  omega
 have hp1:(16*i+data.length+127)/128=1:=by omega
 conv=>whnf
 repeat (refine aa.of ?_;conv=>whnf)
 rw[hsum]
 refine ak.val hps (fun w hw=>trivial) (fun v D hv=>?_)
 rw[hp1] at hv
 subst hv
 conv=>whnf
 repeat (refine aa.of ?_;conv=>whnf)
 refine aH.split (fun hlt=>?_) (fun hlt=>?_)
 · have hx0:x<1:=by
    simp only[au,decide_eq_true_eq] at hlt
    omega
   have hx1:x=0:=by omega
   have hx12:x<12:=by omega
   have hbx:b x≠0:=by
    subst hx1
    omega
   conv=>whnf
   repeat (refine aa.of ?_;conv=>whnf)
   rw[bL hx12]
   conv=>whnf
   repeat (refine aa.of ?_;conv=>whnf)
   refine cF (x:=aE (b x)) (by dsimp only;rw[Nat.mul_one,Nat.zero_add];exact cP hx12) ?_
   conv=>whnf
   repeat (refine aa.of ?_;conv=>whnf)
   refine aH.no (by simp[aD];omega) ?_
   conv=>whnf
   repeat (refine aa.of ?_;conv=>whnf)
   refine⟨x+1,⟨hx0,by dsimp only;omega⟩,?_,?_,aq.refl _⟩
   · conv=>whnf
     refine⟨?_,rfl⟩
     repeat (first | exact aw.nil | refine aw.any ?_ | refine aw.cons ?_ | refine aw.eq (by rw[wrap_i64 (by omega)];rfl) ?_)
   · conv=>whnf
     exact⟨⟨rfl,rfl⟩,trivial⟩
 conv=>whnf
 repeat (refine aa.of ?_;conv=>whnf)
 refine ak.val (vS bv 0 rfl) (fun w hw=>trivial) (fun v D hv=>?_)
 obtain⟨r,hr1,rfl⟩:=hv
 conv=>whnf
 repeat (refine aa.of ?_;conv=>whnf)
 refine aH.no (by subst hr1;rfl) ?_
 conv=>whnf
 repeat (refine aa.of ?_;conv=>whnf)
 refine aI.loop ab (ι:=Nat) ([18,19]++List.range' 90 19) (fun x=>x=0)
  (fun x=>[(90,.v (.int .i64 (x:Int)))]) (fun _=>[bg k s b]) (fun x=>⟨fun w=>By w kb (bA d)∧By w kd data,[(bd,Row.c (d.map ao++Z)),(bv,Row.c V)]⟩)
  (fun x=>x) 0 rfl ?_ rfl (aq.refl _) fun y hy=>?_
 · conv=>whnf
   repeat (first | exact aw.nil | refine aw.any ?_ | refine aw.cons ?_)
 conv=>whnf
 repeat (refine aa.of ?_;conv=>whnf)
 refine aH.no (by subst hy;simp[au]) ?_
 conv=>whnf
 repeat (refine aa.of ?_;conv=>whnf)
 refine aI.loop ab (ι:=Nat) ([20,21,22]++List.range' 111 20) (fun x=>x≤data.length)
  (fun x=>[(111,.v (.int .i64 (x:Int)))]) (fun _=>[bg k s b]) (fun x=>⟨fun w=>By w kb (bA d)∧By w kd data,[(bd,Row.c ((pw x).map ao++Z)),(bv,Row.c V)]⟩)
  (fun x=>data.length - x) 0 (Nat.zero_le _) ?_ rfl (aq.of_le ⟨by rw[hwp0];exact List.Sublist.refl _,fun w hw=>hw⟩) fun q hq=>?_
 · conv=>whnf
   repeat (first | exact aw.nil | refine aw.any ?_ | refine aw.cons ?_)
 have hwq:=hwpl q
 have hwn:=hwpn q
 conv=>whnf
 repeat (refine aa.of ?_;conv=>whnf)
 refine aH.split (fun hlt3=>?_) (fun hlt3=>?_)
 · have hq':q<data.length:=by
    simp only[au,decide_eq_true_eq] at hlt3
    omega
   have f1:IntKind.i64.wrap (off+(q:Int))=((16*i+q:Nat):Int):=by
    rw[wrap_i64 (by omega)]
    omega
   have f2:IntKind.i64.wrap (Int.tdiv ((16*i+q:Nat):Int) (Int.ofNat 128))=((0:Nat):Int):=by
    have:=kI (16*i+q) 128 (by omega)
    rw[show(16*i+q)/128=0 by omega] at this
    exact this
   have f3:Int.tmod ((16*i+q:Nat):Int) (Int.ofNat 128)=((16*i+q:Nat):Int):=by
    have:=dL (16*i+q) 128
    rw[show(16*i+q)%128=16*i+q by omega] at this
    exact this
   conv=>whnf
   repeat (refine aa.of ?_;conv=>whnf)
   refine aj.ah (ai.cL ab (t:=23) rfl rfl rfl rfl q rfl hq' hkd fun ad had=>?_)
   conv=>whnf
   repeat (refine aa.of ?_;conv=>whnf)
   refine aj.ah (ai.cy ab (t:=5) rfl rfl had (.fact fun w h=>h.2) rfl hq' ?_)
   conv=>whnf
   repeat (refine aa.of ?_;conv=>whnf)
   rw[f1,f2]
   conv=>whnf
   repeat (refine aa.of ?_;conv=>whnf)
   refine ak.look hvb (Loc.row _ _) (fun w hst=>bp.row (by simp) w hst) ?_
   rw[dO (by omega)]
   conv=>whnf
   repeat (refine aa.of ?_;conv=>whnf)
   refine aj.ah (ai.f_ ab (t:=23) rfl rfl rfl rfl (16*i+q) f3 (by omega) ?_)
   conv=>whnf
   repeat (refine aa.of ?_;conv=>whnf)
   refine a_.cC ab (t:=5) rfl rfl (r1:=[]) (r2:=[(bv,Row.c V)]) (k:=128*b 0+(16*i+q)) (l:=pw q) (Z:=Z) (aJ data q) rfl rfl (bJ _ _) (by omega) ?_
   rw[show 128*b 0+(16*i+q)=128*b 0+16*i+q by omega,← hwn]
   conv=>whnf
   repeat (refine aa.of ?_;conv=>whnf)
   refine⟨q+1,⟨hq',by dsimp only;omega⟩,?_,?_,aq.refl _⟩
   · conv=>whnf
     refine⟨?_,rfl⟩
     repeat (first | exact aw.nil | refine aw.any ?_ | refine aw.cons ?_ | refine aw.eq (by rw[wrap_i64 (by omega)];rfl) ?_)
   · conv=>whnf
     exact⟨⟨rfl,rfl⟩,trivial⟩
 have hqe:q=data.length:=by
  simp only[au,decide_eq_false_iff_not] at hlt3
  omega
 subst hqe
 rw[hwall]
 conv=>whnf
 repeat (refine aa.of ?_;conv=>whnf)
 rw[hsum]
 refine aj.ah (ai.max ?_)
 rw[show max s (16*i+data.length)=s by omega]
 conv=>whnf
 repeat (refine aa.of ?_;conv=>whnf)
 refine aI.draw ab mixed rfl rfl ?_
 conv=>whnf
 repeat' (first
  | (refine And.intro ?_ ?_<;>conv=>whnf)
  | (refine ax.same rfl ?_;conv=>whnf)
  | (refine ax.row rfl ?_;conv=>whnf)
  | (refine ax.call rfl ?_;conv=>whnf)
  | (refine bG.of ?_;conv=>whnf)
  | (refine aa.of ?_;conv=>whnf)
  | (refine ai.dk ab (t:=103) rfl rfl rfl n rfl hn rfl ?_;conv=>whnf)
  | (refine ax.mk ?_ ?_;(focus (first | exact aq.refl _ | exact aq.left _ _ | exact aq.of_le ⟨List.sublist_append_left _ _,fun w h=>h⟩ | exact aq.of_le ⟨List.Sublist.refl _,fun w h=>h.1⟩));conv=>whnf))
 refine a_.cE ab (t:=82) rfl (r1:=[(bd,Row.c (dd.map ao++Z))]) (r2:=[]) (b:=bv) (k:=1+14*n) (C:=V) (v:=.agg ⟨bg k s b⟩) (by show(Addr.add ⟨bv,0,none⟩ 1).add (n*14)=_;simp only[Addr.aV];rw[Nat.zero_add,Nat.mul_comm]) rfl (by simp[Value.cells,bg,aE,aO]) (by rw[hvl];show _+14≤_;omega) ?_
 rw[show laid V (1+14*n) (Value.agg ⟨bg k s b⟩).cells.toList=V2 from hvs]
 conv=>whnf
 repeat (refine aa.of ?_;conv=>whnf)
 refine ak.rows (r1:=[]) (r2:=[]) hdn (fun w hw=>hw.1) (fun v F hv=>?_)
 obtain⟨rfl,rfl⟩:=hv
 conv=>whnf
 repeat (refine aa.of ?_;conv=>whnf)
 exact jG (by omega) hcap
def iC (l:List UInt8):Nat→Nat
 | 0=>0
 | n+1=>if aJ l n=0 then iC l n else n+1
theorem pY (l:List UInt8) : ∀ n,iC l n≤n
 | 0=>Nat.le_refl _
 | n+1=>by
  unfold iC
  split
  · have:=pY l n
    omega
  · omega
theorem sP (l:List UInt8) : ∀ n j,iC l n≤j→j<n→aJ l j=0
 | 0,j,_,h=>by omega
 | n+1,j,h,hj=>by
  unfold iC at h
  split at h
  · rename_i h0
    by_cases hjn:j=n
    · subst hjn;exact h0
    · exact sP l n j h (by omega)
  · omega
theorem sL (l:List UInt8) : ∀ n,0<iC l n→aJ l (iC l n - 1)≠0
 | 0,h=>by
  unfold iC at h
  omega
 | n+1,h=>by
  unfold iC at h ⊢
  split at h
  · rename_i h0
    rw[if_pos h0]
    exact sL l n h
  · rename_i h0
    rw[if_neg h0]
    simpa using h0
theorem sn (l:List UInt8) (h:Hd) (n:Nat) (hh:h.Ok n) (hn:n≤l.length) (hl:n≤1000000) (z:Int) (hz:z=0) :
 af Tryz.prog 154 [h.v n,.int .u8 z] (fun w=>By w h l) (fun v F=>v=h.v (iC l n)):=by
 refine af.aF ab Tryz.func154 rfl (by decide) (n:=Tryz.f154.ntmps - 2) rfl rfl fun w0 av=>?_
 conv=>whnf
 refine aI.loop ab (ι:=Nat) ([0]++List.range' 5 18) (fun x=>x≤n∧iC l x=iC l n)
  (fun x=>[(0,.v (h.v x))]) (fun _=>[]) (fun _=>⟨fun w=>By w h l,[]⟩)
  (fun x=>x) n ⟨Nat.le_refl _,rfl⟩ ?_ rfl (aq.refl _) fun x hx=>?_
 · conv=>whnf
   repeat (first | exact aw.nil | refine aw.any ?_ | refine aw.cons ?_)
 obtain⟨hx,ht⟩:=hx
 have hhx:h.Ok x:=⟨fun ha=>by have:=hh.nil ha;omega,by have:=hh.cap;omega⟩
 conv=>whnf
 repeat (refine aa.of ?_;conv=>whnf)
 refine aH.split (fun h0=>?_) (fun h0=>?_)
 · have h0':0<x:=by
    simp only[bP,decide_eq_true_eq] at h0
    omega
   have e1:IntKind.i64.wrap ((x:Int) - 1)=((x - 1:Nat):Int):=by
    rw[wrap_i64 (by omega)]
    omega
   conv=>whnf
   repeat (refine aa.of ?_;conv=>whnf)
   refine aj.ah (ai.cL ab (t:=23) rfl rfl rfl rfl (x - 1) e1 (by omega) hhx fun ad had=>?_)
   conv=>whnf
   repeat (refine aa.of ?_;conv=>whnf)
   refine aj.ah (ai.cy ab (t:=5) rfl rfl had (.fact fun w h=>h) rfl (by omega) ?_)
   conv=>whnf
   repeat (refine aa.of ?_;conv=>whnf)
   refine aH.split (fun hb=>?_) (fun hb=>?_)
   · have hb':aJ l (x - 1)=0:=by
      subst hz
      simp[aD] at hb
      omega
     conv=>whnf
     repeat (refine aa.of ?_;conv=>whnf)
     refine aj.ah (ai.gA ab (t:=23) rfl rfl rfl (x - 1) e1 (by have:=hhx.cap;omega) ?_)
     conv=>whnf
     repeat (refine aa.of ?_;conv=>whnf)
     refine⟨x - 1,⟨⟨by omega,?_⟩,by dsimp only;omega⟩,?_,?_,aq.refl _⟩
     · rw[← ht]
       obtain⟨y,rfl⟩ : ∃ y,x=y+1:=⟨x - 1,by omega⟩
       show iC l (y+1 - 1)=_
       rw[Nat.add_sub_cancel] at hb'
       rw[show iC l (y+1)=if aJ l y=0 then iC l y else y+1 from rfl,if_pos hb']
       rfl
     · conv=>whnf
       refine⟨?_,rfl⟩
       repeat (first | exact aw.nil | refine aw.any ?_ | refine aw.cons ?_ | refine aw.eq (by rw[wrap_i64 (by omega)];rfl) ?_)
     · conv=>whnf
       exact trivial
   · have hb':aJ l (x - 1)≠0:=by
      subst hz
      simp[aD] at hb
      omega
     conv=>whnf
     repeat (refine aa.of ?_;conv=>whnf)
     refine⟨_,aq.refl _,?_⟩
     have:iC l n=x:=by
      rw[← ht]
      obtain⟨y,rfl⟩ : ∃ y,x=y+1:=⟨x - 1,by omega⟩
      rw[Nat.add_sub_cancel] at hb'
      rw[show iC l (y+1)=if aJ l y=0 then iC l y else y+1 from rfl,if_neg hb']
     rw[this]
 · have h0':x=0:=by
    simp only[bP,decide_eq_false_iff_not] at h0
    omega
   conv=>whnf
   repeat (refine aa.of ?_;conv=>whnf)
   refine⟨_,aq.refl _,?_⟩
   subst h0'
   rw[← ht]
   rfl
theorem qs (l:List UInt8) (h:Hd) (n:Nat) (hh:h.Ok n) (hn:n≤l.length) (hl:n≤1000000) (h0:0<n) (cs:List UInt8) (hcs:cs = [0]) :
 af Tryz.prog 130 [h.v n,aC cs] (fun w=>By w h l) (fun v F=>v=h.v (iC l n)):=by
 refine af.aF ab Tryz.func130 rfl (by decide) (n:=Tryz.f130.ntmps - 2) rfl rfl fun w0 av=>?_
 have hc1:cs.length=1:=by rw[hcs];rfl
 have hc0:ao (cs[0]'(by omega)) = .int .u8 0:=by subst hcs;rfl
 have hne:(cs == [])=false:=by subst hcs;rfl
 conv=>whnf
 repeat (refine aa.of ?_;conv=>whnf)
 refine aH.no (by simp only[aD,beq_eq_false_iff_ne,ne_eq];omega) ?_
 conv=>whnf
 repeat (refine aa.of ?_;conv=>whnf)
 refine aj.ah (ai.fL (l:=cs) (m:=[]) ?_)
 rw[hne]
 conv=>whnf
 repeat (refine aa.of ?_;conv=>whnf)
 refine aH.yes (by simp only[aD,beq_iff_eq];exact congrArg Int.ofNat hc1) ?_
 conv=>whnf
 repeat (refine aa.of ?_;conv=>whnf)
 refine aj.ah (ai.jk ab (t:=9) rfl rfl (l:=cs) 0 rfl (by omega) ?_)
 obtain⟨z,hz⟩ : ∃ z:Int,z=0:=⟨_,rfl⟩
 rw[hc0,← hz]
 conv=>whnf
 repeat (refine aa.of ?_;conv=>whnf)
 refine aH.yes (by subst hz;simp[au]) ?_
 conv=>whnf
 repeat (refine aa.of ?_;conv=>whnf)
 refine aj.ah (ai.jk ab (t:=9) rfl rfl (l:=cs) 0 hz (by omega) ?_)
 rw[hc0,← hz]
 conv=>whnf
 repeat (refine aa.of ?_;conv=>whnf)
 refine ak.val (sn l h n hh hn hl z hz) (fun w hw=>hw) (fun v D hv=>?_)
 subst hv
 conv=>whnf
 repeat (refine aa.of ?_;conv=>whnf)
 exact⟨_,aq.refl _,rfl⟩
theorem gn {l:List En} {i:Nat} (h:i<l.length):((bV l).drop (2*i)).take 2=gQ l[i]:=by
 obtain⟨h1,h2⟩:=dz h
 have hl:=jC l
 apply List.ext_getElem?
 intro j
 rw[List.getElem?_take]
 match j with
 | 0=>rw[if_pos (by decide),List.getElem?_drop,Nat.add_zero,h1];rfl
 | 1=>rw[if_pos (by decide),List.getElem?_drop,h2];rfl
 | j+2=>rw[if_neg (by omega)];rfl
section
variable (f:FuncId) (Pre:World→Prop) (p:En→Bool)
theorem jS (u:Value) (l:List En) (h:Hd) (hh:h.Ok l.length) (hl:l.length≤1000000) (hf : ∀ e∈l,af Tryz.prog f [.agg ⟨gQ e⟩,u] Pre (fun v F=>v = .bool (p e))) :
 af Tryz.prog 69 [h.v l.length,.func (.func f) #[] #[u]] (fun w=>aB w h.a (bV l)∧Pre w) (fun v F=>v = .int .i64 (ib (l.findIdx? p))):=by
 refine af.aF ab Tryz.func69 rfl (by decide) (n:=Tryz.f69.ntmps - 2) rfl rfl fun w0 av=>?_
 conv=>whnf
 refine aI.loop ab (ι:=Nat) ([5]++List.range' 8 11) (fun x=>x≤l.length∧∀ j (hj:j<l.length),j<x→p l[j]=false)
  (fun x=>[(8,.v (.int .i64 (x:Int)))]) (fun _=>[]) (fun _=>⟨fun w=>aB w h.a (bV l)∧Pre w,[]⟩)
  (fun x=>l.length - x) 0 ⟨Nat.zero_le _,fun j hj h=>by omega⟩ ?_ rfl (aq.refl _) fun i hi=>?_
 · conv=>whnf
   repeat (first | exact aw.nil | refine aw.any ?_ | refine aw.cons ?_)
 obtain⟨hi,hall⟩:=hi
 conv=>whnf
 refine aH.split (fun hlt=>?_) (fun hlt=>?_)
 · have hlt':i<l.length:=by
    simp only[au,decide_eq_true_eq] at hlt
    omega
   conv=>whnf
   repeat (refine aa.of ?_;conv=>whnf)
   refine aj.ah (ai.index ab (t:=111) rfl rfl rfl (by omega) (by omega) hh.nil fun ad had=>?_)
   conv=>whnf
   repeat (refine aa.of ?_;conv=>whnf)
   refine aj.ah (ai.kC ab (t:=113) rfl rfl (ad:=ad) (k:=2*i) (L:=bV l) (m:=gQ l[i]) (.fact fun w hw=>had ▸ hw.1) (by congr 1;show Int.toNat (i:Int)*2=_;rw[Int.toNat_natCast];omega) (gn hlt') rfl ?_)
   conv=>whnf
   repeat (refine aa.of ?_;conv=>whnf)
   refine ak.val (hf _ (List.getElem_mem hlt')) (fun w hw=>hw.2) (fun v D hv=>?_)
   generalize hq:p l[i]=q at hv
   subst hv
   cases q
   · conv=>whnf
     repeat (refine aa.of ?_;conv=>whnf)
     refine⟨i+1,⟨⟨hlt',fun j hj h=>?_⟩,by dsimp only;omega⟩,?_,?_,aq.refl _⟩
     · rcases Nat.lt_or_eq_of_le (Nat.lt_succ_iff.1 h) with h5 | h5
       · exact hall j hj h5
       · subst h5
         exact hq
     · conv=>whnf
       refine⟨?_,rfl⟩
       repeat (first | exact aw.nil | refine aw.any ?_ | refine aw.cons ?_ | refine aw.eq (by rw[wrap_i64 (by omega)];rfl) ?_)
     · conv=>whnf
       exact trivial
   · conv=>whnf
     repeat (refine aa.of ?_;conv=>whnf)
     refine⟨_,aq.refl _,?_⟩
     have:l.findIdx? p=some i:=by
      rw[List.findIdx?_eq_some_iff_getElem]
      exact⟨hlt',hq,fun j hj=>by simpa using hall j (by omega) hj⟩
     rw[this]
     rfl
 · have hie:i=l.length:=by
    simp only[au,decide_eq_false_iff_not] at hlt
    omega
   subst hie
   conv=>whnf
   repeat (refine aa.of ?_;conv=>whnf)
   refine⟨_,aq.refl _,?_⟩
   have:l.findIdx? p=none:=by
    rw[List.findIdx?_eq_none_iff]
    intro x hx
    obtain⟨j,hj,rfl⟩:=List.getElem_of_mem hx
    simpa using hall j hj hj
   rw[this]
   rfl
end
end Go.Proofs.YtfeoedkmndkbjaaGreatDoor
