/- Parts of the proof: RaR, RaT, RaU, RaV, RbE, RbF, RbG, RbP, RbH, RbC, RbI, RbJ, RbD. -/
import Derived.Test.YtlnhdpjnlffaoaaGreatDoorQT
import Derived.Test.YtlnhdpjnlffaoaaGreatDoorQJ
import Derived.ChangeKeysEq
import Derived.Laws.StructEq
import Derived.Test.YtlnhdpjnlffaoaaGreatDoorQI
import Derived.Test.YtlnhdpjnlffaoaaGreatDoorQH
namespace Go.Proofs.YtlnhdpjnlffaoaaGreatDoor
open Go Go.Sx
set_option maxRecDepth 100000
set_option maxHeartbeats 4000000
set_option linter.unusedVariables false
set_option linter.unusedSimpArgs false
theorem tI (x y:nG):rr Tryz.prog (Tryz.prog.fieldsOf 133).toList 0 (aW x) (aW y):=by
 rw[show Tryz.prog.fieldsOf 133=_ from by unfold Program.fieldsOf;rw[Tryz.underlying133]]
 exact⟨⟨by decide,rfl,.inl ⟨by kernel_rfl,_,_,rfl,rfl⟩⟩,⟨by decide,rfl,.inl ⟨by kernel_rfl,_,_,rfl,rfl⟩⟩,⟨by decide,rfl,.inl ⟨by kernel_rfl,_,_,rfl,rfl⟩⟩,⟨by decide,rfl,.inr ⟨by kernel_rfl,_,_,rfl,rfl⟩⟩,trivial⟩
theorem zT:Tryz.prog.underlying 133=some (.struct (Tryz.prog.fieldsOf 133)):=by
 unfold Program.fieldsOf
 rw[Tryz.underlying133]
theorem lU (s:bW) (E:List Value) (hR:dJ s E) (hl:E.length=380) (ho:s.Ok):af Tryz.prog 53 [.agg ⟨E⟩] s.Rows (fun v F=>v = .bool (k7 s)):=by
 have hwi:=hR.eWi
 have hnil:=ho.wi.h.nil
 have hbang:0<s.wi.l.length→s.wi.l[0]! = s.wi.l[0]!:=fun _=>rfl
 unfold Sl.v at hwi
 unfold k7
 obtain⟨q,hq⟩ : ∃ q,fj (aW s.wi.l[0]!) (aW (uq s.tr))=q:=⟨_,rfl⟩
 obtain⟨n,hn⟩ : ∃ n,s.wi.l.length=n:=⟨_,rfl⟩
 rw[hq,hn]
 rw[hn] at hwi hnil
 refine af.aG ae Tryz.func53 rfl (by decide) (n:=Tryz.f53.ntmps - 1) rfl rfl fun w0 av=>?_
 conv=>whnf
 repeat (refine aa.of ?_;conv=>whnf)
 refine ar.bQ fun br=>?_
 conv=>whnf
 repeat (refine aa.of ?_;conv=>whnf)
 refine ar.aj (ak.aQ ae rfl rfl (ad:=⟨br,0,none⟩) (k:=318) (L:=E) (m:=rJ s.tr) (aK.row (by simp[Value.cells])) rfl hR.eTr rfl ?_)
 conv=>whnf
 repeat (refine aa.of ?_;conv=>whnf)
 intro b1
 conv=>whnf
 repeat (refine aa.of ?_;conv=>whnf)
 refine ar.aj (ak.aH ae rfl rfl (ad:=⟨br,0,none⟩) (k:=307) (L:=E) (v:=s.wi.h.v n) (aK.row (by simp[Value.cells])) (fun _=>rfl) hwi ?_)
 conv=>whnf
 repeat (refine aa.of ?_;conv=>whnf)
 refine bF.split (fun h0=>?_) (fun h0=>?_)
 · have hz:n=0:=by
    simp[aA] at h0
    omega
   conv=>whnf
   repeat (refine aa.of ?_;conv=>whnf)
   exact⟨_,ax.refl _,by rw[if_pos hz]⟩
 · have hz:n≠0:=by
    simp[aA] at h0
    omega
   rw[if_neg hz]
   conv=>whnf
   repeat (refine aa.of ?_;conv=>whnf)
   refine ar.aj (ak.aQ ae rfl rfl (ad:=⟨br,0,none⟩) (k:=309) (L:=E) (m:=cE s.dc) (aK.row (by simp[Value.cells])) rfl hR.eCh rfl ?_)
   conv=>whnf
   repeat (refine aa.of ?_;conv=>whnf)
   intro b2
   conv=>whnf
   repeat (refine aa.of ?_;conv=>whnf)
   have hd:decide (n=1)=aR (n:Int) 1:=by
    rw[aA,Bool.eq_iff_iff]
    simp
    omega
   have hget:0<s.wi.l.length→((s.wi.l.flatMap aW).drop (0*4)).take 4=aW s.wi.l[0]!:=fun h=>by
    rw[bn h]
    exact a8 (cf:=aW) (z:=4) (fun _=>rfl) h
   refine az.draw ae mixed rfl rfl ?_
   conv=>whnf
   repeat' (first
    | (refine ak.aH ae rfl rfl (ad:=⟨br,0,none⟩) (k:=307) (L:=E) (v:=s.wi.h.v n) (aK.row (by simp[Value.cells])) (fun _=>rfl) hwi ?_;conv=>whnf)
    | (refine ak.index ae (t:=47) rfl rfl rfl (by omega) (by omega) hnil fun ad had=>?_;conv=>whnf)
    | (refine ak.aQ ae rfl rfl (ad:=ad) (k:=0*4) (L:=s.wi.l.flatMap aW) (m:=aW s.wi.l[0]!) (.fact fun w hw=>had ▸ hw.wi) (by simp) (hget (by omega)) rfl ?_;conv=>whnf)
    | (refine ak.wR zT (by kernel_rfl) (by kernel_rfl) (xs:=aW s.wi.l[0]!) (ys:=aW (uq s.tr)) (tI _ _) ?_;rw[hq];conv=>whnf)
    | (split<;>conv=>whnf))
   all_goals
    refine⟨_,ax.refl _,?_⟩
    clear hq hget hnil hwi hR ho hbang
    rw[hd]
    simp_all
def iG (gl:List Gr) (x:nG):Bool:=!(gl.any fun y=>aR y.grantee 7&&(aR y.frame x.frame&&jK y.rights (if x.w then 2 else 1)))
theorem m9 (s:bW) (E:List Value) (hR:dJ s E) (hl:E.length=380) (hw:s.Wide):af Tryz.prog 54 [.agg ⟨E⟩] s.Rows (fun v F=>v = .bool (!s.wi.l.any (iG s.gr.l))):=by
 rw[fM s.wi.l,Bool.not_not]
 have hrW : ∀ w,s.Rows w→ai w s.wi.h.a (s.wi.l.flatMap aW):=fun w h=>h.wi
 have hrG : ∀ w,s.Rows w→ai w s.gr.h.a (s.gr.l.flatMap bM):=fun w h=>h.gr
 have gW:=hR.eWi
 have gG:=hR.eGr
 have hwh:=hw.wi.h
 have hgh:=hw.gr.h
 have hwl:=hw.wi.le
 have hgl:=hw.gr.le
 rw[show s.wi.v=s.wi.h.v s.wi.l.length from rfl] at gW
 rw[show s.gr.v=s.gr.h.v s.gr.l.length from rfl] at gG
 generalize s.wi.h=wh at *
 generalize s.wi.l=wl at *
 generalize s.gr.h=gh at *
 generalize s.gr.l=gl at *
 have hEl:E.length=380:=hl
 refine af.aG ae Tryz.func54 rfl (by decide) (n:=Tryz.f54.ntmps - 1) rfl rfl fun w0 av=>?_
 conv=>whnf
 repeat (refine aa.of ?_;conv=>whnf)
 refine ar.bQ fun br=>?_
 conv=>whnf
 repeat (refine aa.of ?_;conv=>whnf)
 refine az.loop ae (ι:=Nat) ([3,4]++List.range' 5 24) (fun z=>z≤wl.length∧∀ j,j<z→cU wl (iG gl) j=true)
  (fun z=>[(3,.v (.int .i64 (z:Int)))]) (fun _=>[]) (fun _=>⟨s.Rows,[(br,Row.c E)]⟩)
  (fun z=>wl.length - z) 0 ⟨Nat.zero_le _,fun j h=>by omega⟩ ?_ rfl (ax.of_le ⟨by simp[Value.cells],fun w hw=>hw⟩) fun i hi=>?_
 · conv=>whnf
   repeat (first | exact au.nil | refine au.any ?_ | refine au.cons ?_)
 obtain⟨hi,hall⟩:=hi
 conv=>whnf
 repeat (refine aa.of ?_;conv=>whnf)
 repeat' (first
  | (refine ar.aj (ak.aH ae rfl rfl (ad:=⟨br,0,none⟩) (k:=307) (L:=E) (v:=wh.v wl.length) (aK.row (by simp[Value.cells])) (fun _=>rfl) gW ?_);conv=>whnf))
 refine bF.split (fun hlt=>?_) (fun hlt=>?_)
 · have hlt':i<wl.length:=by
    simp only[ao,decide_eq_true_eq] at hlt
    omega
   have hok:cU wl (iG gl) i=(!iG gl wl[i]):=by
    unfold cU
    rw[bn hlt']
   have hnext:cU wl (iG gl) i=true→∀ j,j<i+1→cU wl (iG gl) j=true:=fun hs j hj=>by
    rcases Nat.lt_or_eq_of_le (Nat.lt_succ_iff.1 hj) with h5 | h5
    · exact hall j h5
    · exact h5 ▸ hs
   obtain⟨x,hx⟩ : ∃ x,wl[i]=x:=⟨_,rfl⟩
   have hH : ∀ need:Int,1≤need∧need≤3→_:=fun need hn=>tg gl gh hgh hgl 7 x.frame need hn
   have hdef:iG gl x = !(gl.any fun y=>aR y.grantee 7&&(aR y.frame x.frame&&jK y.rights (if x.w then 2 else 1))):=rfl
   have hH2:=hH (if x.w then 2 else 1) (by split<;>decide)
   obtain⟨q,hq⟩ : ∃ q,(gl.any fun y=>aR y.grantee 7&&(aR y.frame x.frame&&jK y.rights (if x.w then 2 else 1)))=q:=⟨_,rfl⟩
   rw[hq] at hH2 hdef
   clear hq hH
   rw[hx,hdef] at hok
   conv=>whnf
   repeat (refine aa.of ?_;conv=>whnf)
   repeat' (first
    | (refine ar.aj (ak.aH ae rfl rfl (ad:=⟨br,0,none⟩) (k:=307) (L:=E) (v:=wh.v wl.length) (aK.row (by simp[Value.cells])) (fun _=>rfl) gW ?_);conv=>whnf)
    | (refine ar.aj (ak.index ae (t:=47) rfl rfl rfl (by first | omega) (by first | omega) hwh.nil fun ad had=>?_);conv=>whnf)
    | (refine ar.aj (ak.aH ae rfl rfl (ad:=ad) (k:=i*4+3) (L:=wl.flatMap aW) (v:=.bool wl[i].w) (.fact fun w hw=>had ▸ hrW w hw) ?adr (bY (cf:=aW) (z:=4) (fun _=>rfl) hlt' (by decide)) ?_);(case adr=>intro hs;first | rfl | (rw[Addr.bD hs];rfl));conv=>whnf))
   rw[hx]
   obtain⟨ww,hww⟩ : ∃ ww,x.w=ww:=⟨_,rfl⟩
   rw[hww] at hH2 ⊢
   have hfr:wl[i].frame=x.frame:=by rw[hx]
   cases ww
   all_goals
    conv=>whnf
    repeat (refine aa.of ?_;conv=>whnf)
    refine az.draw ae mixed rfl rfl ?_
    conv=>whnf
    repeat' (first
     | (refine ak.aH ae rfl rfl (ad:=⟨br,0,none⟩) (k:=271) (L:=E) (v:=gh.v gl.length) (aK.row (by simp[Value.cells])) (fun _=>rfl) gG ?_;conv=>whnf)
     | (refine ak.aH ae rfl rfl (ad:=⟨br,0,none⟩) (k:=307) (L:=E) (v:=wh.v wl.length) (aK.row (by simp[Value.cells])) (fun _=>rfl) gW ?_;conv=>whnf)
     | (refine ak.index ae (t:=47) rfl rfl rfl (by first | omega) (by first | omega) hwh.nil fun ad had=>?_;conv=>whnf)
     | (refine ak.aH ae rfl rfl (ad:=ad) (k:=i*4+2) (L:=wl.flatMap aW) (v:=.int .i64 wl[i].frame) (.fact fun w hw=>had ▸ hrW w hw) ?adr (bY (cf:=aW) (z:=4) (fun _=>rfl) hlt' (by decide)) ?_;(case adr=>intro hs;first | rfl | (rw[Addr.bD hs];rfl));conv=>whnf)
     | (rw[hfr];refine aw.val hH2 (fun w hw=>hrG w hw) (fun v D hv=>?_);subst hv;cases q<;>conv=>whnf))
    · exact⟨_,ax.refl _,by rw[aJ hlt' (by rw[hok];rfl)]⟩
    · refine⟨i+1,⟨⟨hlt',hnext (by rw[hok];rfl)⟩,by dsimp only;omega⟩,?_,?_,ax.refl _⟩
      · conv=>whnf
        refine⟨?_,rfl⟩
        repeat (first | exact au.nil | refine au.any ?_ | refine au.cons ?_ | refine au.eq (by rw[wrap_i64 (by omega)];rfl) ?_)
      · conv=>whnf
        exact trivial
 · have hie:i=wl.length:=by
    simp only[ao,decide_eq_false_iff_not] at hlt
    omega
   subst hie
   conv=>whnf
   repeat (refine aa.of ?_;conv=>whnf)
   exact⟨_,ax.refl _,by rw[aV hall]⟩
def rX {α:Type} [Inhabited α] (l:List α) (f:α→Bool) (j:Nat):Bool:=f l[j]!
theorem Ag {α:Type} [Inhabited α] (l:List α) (f:α→Bool):l.all f=allI l.length (rX l f):=by
 rw[Bool.eq_iff_iff,List.all_eq_true,dB]
 constructor
 · intro h j hj
   unfold rX
   rw[bn hj]
   exact h _ (List.getElem_mem hj)
 · intro h x hx
   obtain⟨k,hk,rfl⟩:=List.mem_iff_getElem.1 hx
   have:=h k hk
   unfold rX at this
   rwa [bn hk] at this
theorem qG (s:bW) (E:List Value) (hR:dJ s E) (hl:E.length=380) (hw:s.Wide):af Tryz.prog 55 [.agg ⟨E⟩] s.Rows (fun v F=>v = .bool (jE s)):=by
 unfold jE
 have hrW : ∀ w,s.Rows w→ai w s.wi.h.a (s.wi.l.flatMap aW):=fun w h=>h.wi
 have gW:=hR.eWi
 have hwh:=hw.wi.h
 have hwl:=hw.wi.le
 rw[show s.wi.v=s.wi.h.v s.wi.l.length from rfl] at gW
 obtain⟨wh,hwhe⟩ : ∃ wh,s.wi.h=wh:=⟨_,rfl⟩
 obtain⟨wl,hwle⟩ : ∃ wl,s.wi.l=wl:=⟨_,rfl⟩
 rw[hwhe] at gW hwh hrW
 rw[hwle] at gW hwh hwl hrW
 have hEl:E.length=380:=hl
 refine af.aG ae Tryz.func55 rfl (by decide) (n:=Tryz.f55.ntmps - 1) rfl rfl fun w0 av=>?_
 conv=>whnf
 repeat (refine aa.of ?_;conv=>whnf)
 refine ar.bQ fun br=>?_
 conv=>whnf
 repeat (refine aa.of ?_;conv=>whnf)
 refine az.loop ae (ι:=Nat) ([3,4,5]++List.range' 6 43) (fun z=>z≤32∧∀ j,j<z→oa s j=true)
  (fun z=>[(3,.v (.int .i64 (z:Int)))]) (fun _=>[]) (fun _=>⟨s.Rows,[(br,Row.c E)]⟩)
  (fun z=>32 - z) 0 ⟨Nat.zero_le _,fun j h=>by omega⟩ ?_ rfl (ax.of_le ⟨by simp[Value.cells],fun w hw=>hw⟩) fun i hi=>?_
 · conv=>whnf
   repeat (first | exact au.nil | refine au.any ?_ | refine au.cons ?_)
 obtain⟨hi,hall⟩:=hi
 conv=>whnf
 repeat (refine aa.of ?_;conv=>whnf)
 refine bF.split (fun hlt=>?_) (fun hlt=>?_)
 · have hlt':i<32:=by
    simp only[ao,decide_eq_true_eq] at hlt
    omega
   have hnext:oa s i=true→∀ j,j<i+1→oa s j=true:=fun hs j hj=>by
    rcases Nat.lt_or_eq_of_le (Nat.lt_succ_iff.1 hj) with h5 | h5
    · exact hall j h5
    · exact h5 ▸ hs
   have haI:oa s i=allI (s.sp i).l.length (rX (s.sp i).l (fun e=>!jr wl e.frame)):=by
    rw[← hwle]
    exact Ag _ _
   have hrS : ∀ w,s.Rows w→ai w (s.sp i).h.a ((s.sp i).l.flatMap bT):=fun w h=>h.sp i hlt'
   have gS:=hR.eS i hlt'
   have hsh:=(hw.sp i hlt').h
   have hsl:=(hw.sp i hlt').le
   rw[show(s.sp i).v=(s.sp i).h.v (s.sp i).l.length from rfl] at gS
   generalize (s.sp i).h=sh at *
   generalize (s.sp i).l=sl at *
   conv=>whnf
   repeat (refine aa.of ?_;conv=>whnf)
   refine az.loop ae (ι:=Nat) ([4,5]++List.range' 10 39) (fun z=>z≤sl.length∧∀ j,j<z→rX sl (fun e=>!jr wl e.frame) j=true)
    (fun z=>[(4,.v (.int .i64 (z:Int)))]) (fun _=>[]) (fun _=>⟨s.Rows,[(br,Row.c E)]⟩)
    (fun z=>sl.length - z) 0 ⟨Nat.zero_le _,fun j h=>by omega⟩ ?_ rfl (ax.of_le ⟨by simp[Value.cells],fun w hw=>hw⟩) fun k hk=>?_
   · conv=>whnf
     repeat (first | exact au.nil | refine au.any ?_ | refine au.cons ?_)
   obtain⟨hk,hallk⟩:=hk
   conv=>whnf
   repeat (refine aa.of ?_;conv=>whnf)
   repeat' (first
    | (refine ar.aj (ak.bj ae rfl rfl rfl i rfl (by omega) rfl ?_);conv=>whnf)
    | (refine ar.aj (ak.aH ae rfl rfl (ad:=⟨br,0,none⟩) (k:=275+i) (L:=E) (v:=sh.v sl.length) (aK.row (by simp[Value.cells])) (fun _=>by rw[jR,Nat.mul_one];simp[Addr.add]) gS ?_);conv=>whnf))
   refine bF.split (fun hltk=>?_) (fun hltk=>?_)
   · have hltk':k<sl.length:=by
      simp only[ao,decide_eq_true_eq] at hltk
      omega
     have hokk:rX sl (fun e=>!jr wl e.frame) k=(!jr wl sl[k].frame):=by
      unfold rX
      rw[bn hltk']
     have hnextk:rX sl (fun e=>!jr wl e.frame) k=true→∀ j,j<k+1→rX sl (fun e=>!jr wl e.frame) j=true:=fun hs j hj=>by
      rcases Nat.lt_or_eq_of_le (Nat.lt_succ_iff.1 hj) with h5 | h5
      · exact hallk j h5
      · exact h5 ▸ hs
     obtain⟨f,hf⟩ : ∃ f,sl[k].frame=f:=⟨_,rfl⟩
     rw[hf,show jr wl f = !allI wl.length (cU wl (fun x=>x.w&&aR x.frame f)) from fM wl _,Bool.not_not] at hokk
     conv=>whnf
     repeat (refine aa.of ?_;conv=>whnf)
     refine az.loop ae (ι:=Nat) (List.range' 5 1++List.range' 19 30) (fun z=>z≤wl.length∧∀ j,j<z→cU wl (fun x=>x.w&&aR x.frame f) j=true)
      (fun z=>[(5,.v (.int .i64 (z:Int)))]) (fun _=>[]) (fun _=>⟨s.Rows,[(br,Row.c E)]⟩)
      (fun z=>wl.length - z) 0 ⟨Nat.zero_le _,fun j h=>by omega⟩ ?_ rfl (ax.of_le ⟨by simp[Value.cells],fun w hw=>hw⟩) fun m hm=>?_
     · conv=>whnf
       repeat (first | exact au.nil | refine au.any ?_ | refine au.cons ?_)
     obtain⟨hm,hallm⟩:=hm
     conv=>whnf
     repeat (refine aa.of ?_;conv=>whnf)
     repeat' (first
      | (refine ar.aj (ak.aH ae rfl rfl (ad:=⟨br,0,none⟩) (k:=307) (L:=E) (v:=wh.v wl.length) (aK.row (by simp[Value.cells])) (fun _=>rfl) gW ?_);conv=>whnf))
     refine bF.split (fun hltm=>?_) (fun hltm=>?_)
     · have hltm':m<wl.length:=by
        simp only[ao,decide_eq_true_eq] at hltm
        omega
       have hokm:cU wl (fun x=>x.w&&aR x.frame f) m=(!(wl[m].w&&aR wl[m].frame f)):=by
        unfold cU
        rw[bn hltm']
       have hnextm:cU wl (fun x=>x.w&&aR x.frame f) m=true→∀ j,j<m+1→cU wl (fun x=>x.w&&aR x.frame f) j=true:=fun hs j hj=>by
        rcases Nat.lt_or_eq_of_le (Nat.lt_succ_iff.1 hj) with h5 | h5
        · exact hallm j h5
        · exact h5 ▸ hs
       obtain⟨ww,hww⟩ : ∃ ww,wl[m].w=ww:=⟨_,rfl⟩
       obtain⟨q,hq⟩ : ∃ q,aR wl[m].frame f=q:=⟨_,rfl⟩
       rw[hww,hq] at hokm
       conv=>whnf
       repeat (refine aa.of ?_;conv=>whnf)
       refine az.draw ae mixed rfl rfl ?_
       conv=>whnf
       repeat' (first
        | (refine ak.aH ae rfl rfl (ad:=⟨br,0,none⟩) (k:=307) (L:=E) (v:=wh.v wl.length) (aK.row (by simp[Value.cells])) (fun _=>rfl) gW ?_;conv=>whnf)
        | (refine ak.index ae (t:=47) rfl rfl rfl (by first | omega) (by first | omega) hwh.nil fun ad had=>?_;conv=>whnf)
        | (refine ak.aH ae rfl rfl (ad:=ad) (k:=m*4+2) (L:=wl.flatMap aW) (v:=.int .i64 wl[m].frame) (.fact fun w hw=>had ▸ hrW w hw) ?adr (bY (cf:=aW) (z:=4) (fun _=>rfl) hltm' (by decide)) ?_;(case adr=>intro hs;first | rfl | (rw[Addr.bD hs];rfl));conv=>whnf)
        | (refine ak.aH ae rfl rfl (ad:=ad) (k:=m*4+3) (L:=wl.flatMap aW) (v:=.bool wl[m].w) (.fact fun w hw=>had ▸ hrW w hw) ?adr (bY (cf:=aW) (z:=4) (fun _=>rfl) hltm' (by decide)) ?_;(case adr=>intro hs;first | rfl | (rw[Addr.bD hs];rfl));conv=>whnf)
        | (rw[hww];cases ww<;>conv=>whnf)
        | (refine ak.bj ae rfl rfl rfl i rfl (by omega) rfl ?_;conv=>whnf)
        | (refine ak.aH ae rfl rfl (ad:=⟨br,0,none⟩) (k:=275+i) (L:=E) (v:=sh.v sl.length) (aK.row (by simp[Value.cells])) (fun _=>by rw[jR,Nat.mul_one];simp[Addr.add]) gS ?_;conv=>whnf)
        | (refine ak.index ae (t:=44) rfl rfl rfl (by first | omega) (by first | omega) hsh.nil fun ad had=>?_;conv=>whnf)
        | (refine ak.aH ae rfl rfl (ad:=ad) (k:=(k)*3+1) (L:=sl.flatMap bT) (v:=.int .i64 sl[k].frame) (.fact fun w hw=>had ▸ hrS w hw) ?adr (bY (cf:=bT) (z:=3) (fun _=>rfl) hltk' (by decide)) ?_;(case adr=>intro hs;first | rfl | (rw[Addr.bD hs];rfl));conv=>whnf)
        | (rw[hf];conv=>whnf)
        | (rw[hq];cases q<;>conv=>whnf))
       all_goals first
        | (refine⟨m+1,⟨⟨hltm',hnextm (hokm.trans rfl)⟩,by dsimp only;omega⟩,?_,?_,ax.refl _⟩)
        | (
         refine⟨_,ax.refl _,?_⟩
         rw[aJ hlt' (haI.trans (aJ hltk' (hokk.trans (aJ hltm' (hokm.trans rfl)))))])
       all_goals first
        | (
         conv=>whnf
         refine⟨?_,rfl⟩
         repeat (first | exact au.nil | refine au.any ?_ | refine au.cons ?_ | refine au.eq (by rw[wrap_i64 (by omega)];rfl) ?_)
         done)
        | (
         conv=>whnf
         exact trivial)
     · have hiem:m=wl.length:=by
        simp only[ao,decide_eq_false_iff_not] at hltm
        omega
       subst hiem
       conv=>whnf
       repeat (refine aa.of ?_;conv=>whnf)
       refine⟨k+1,⟨⟨hltk',hnextk (by rw[hokk,aV hallm])⟩,by dsimp only;omega⟩,?_,?_,ax.refl _⟩
       · conv=>whnf
         refine⟨?_,rfl⟩
         repeat (first | exact au.nil | refine au.any ?_ | refine au.cons ?_ | refine au.eq (by rw[wrap_i64 (by omega)];rfl) ?_)
       · conv=>whnf
         exact trivial
   · have hiek:k=sl.length:=by
      simp only[ao,decide_eq_false_iff_not] at hltk
      omega
     subst hiek
     conv=>whnf
     repeat (refine aa.of ?_;conv=>whnf)
     refine⟨i+1,⟨⟨hlt',hnext (by rw[haI,aV hallk])⟩,by dsimp only;omega⟩,?_,?_,ax.refl _⟩
     · conv=>whnf
       refine⟨?_,rfl⟩
       repeat (first | exact au.nil | refine au.any ?_ | refine au.cons ?_ | refine au.eq (by rw[wrap_i64 (by omega)];rfl) ?_)
     · conv=>whnf
       exact trivial
 · have hie:i=32:=by
    simp only[ao,decide_eq_false_iff_not] at hlt
    omega
   subst hie
   conv=>whnf
   repeat (refine aa.of ?_;conv=>whnf)
   exact⟨_,ax.refl _,by rw[aV hall]⟩
section
variable {P:Program} {w0:World} {R:Nat→Nat→Prop} {av:Nat→Prop} {bs:List (Nat×Nat)} {cs:List (List Value)} {F:Fx}
theorem ig {e:TypeId} (he:P.underlying e=some .bool) (d:Nat) (xs ys:Array Value) (f g:Nat→Bool) (w:World) : ∀ (is:List Nat),
 (∀ i∈is,xs[i*1]? = some (.bool (f i))∧ys[i*1]? = some (.bool (g i)))→(Op.eqItems (d+1) e 1 xs ys is).run P w = .ok (is.all fun i=>f i == g i) w
 | [],_=>by simp[Op.eqItems]
 | i::is,h=>by
  obtain⟨h1,h2⟩:=h i (List.mem_cons_self ..)
  unfold Op.eqItems
  rw[an (dM he rfl h1 w),an (dM he rfl h2 w),an (Sx.run_equalIn_bool (P:=P) he d _ _ w)]
  have ih:=ig he d xs ys f g w is fun j hj=>h j (List.mem_cons_of_mem _ hj)
  rw[List.all_cons]
  cases hb:(f i == g i) with
  | true=>
   simp only[Bool.not_true,Bool.false_eq_true,if_false,Bool.true_and]
   exact ih
  | false=>simp
theorem ak.Ao {t e:TypeId} {n:Nat} {i:TypeInfo} (hu:P.underlying t=some (.array n e)) (he:P.underlying e=some .bool) (hi:P.info? e=some i) (hc:P.cellsOf e=1) (hg:P.eqGuardType P.depth t=false) {f g:Nat→Bool} {xs ys:List Value} (hf : ∀ k,k<n→xs[k]? = some (.bool (f k))∧ys[k]? = some (.bool (g k))) {x y:Operand} {K:Value→Prop}
 (h:K (.bool ((List.range n).all fun k=>f k == g k))):ak P w0 R av (do eqGuard .eql t x y (.agg ⟨xs⟩) (.agg ⟨ys⟩);binOp .eql t (.agg ⟨xs⟩) (.agg ⟨ys⟩)) bs cs F K:=by
 refine(bc _ _ _ _).2 ⟨_,fun w _=>?_,h⟩
 rw[an (run_eqGuard_agg w .eql t x y _ _ hg),run_eql_struct]
 have h2:(Op.equalIn 10000 t (.agg ⟨xs⟩) (.agg ⟨ys⟩)).run P w = .ok ((List.range n).all fun k=>f k == g k) w:=by
  show(Op.equalIn (9999+1) t _ _).run P w=_
  rw[run_equalIn_array w 9999 ⟨xs⟩ ⟨ys⟩ hu hi,hc]
  exact ig (d:=9998) he _ _ f g w _ fun k hk=>by
   have:=hf k (List.mem_range.1 hk)
   rw[Nat.mul_one,List.getElem?_toArray,List.getElem?_toArray]
   exact this
 rw[h2]
 rfl
end
theorem kg (s:bW) (E:List Value) (hR:dJ s E) (hl:E.length=380) (hw:s.Wide):af Tryz.prog 58 [.agg ⟨E⟩] (fun _=>True) (fun v F=>v = .bool (oJ s)):=by
 have gP:=hR.ePe
 have hle:=hw.pe.le
 obtain⟨i1,d1,z1,p1,p2,p3,p4,p5,p6,p7,p8⟩:=aN (ae 4 _ rfl)
 have hinfo:=p1
 rw[show s.pe.v=s.pe.h.v s.pe.l.length from rfl] at gP
 have hEl:E.length=380:=hl
 refine af.aG ae Tryz.func58 rfl (by decide) (n:=Tryz.f58.ntmps - 1) rfl rfl fun w0 av=>?_
 conv=>whnf
 repeat (refine aa.of ?_;conv=>whnf)
 refine ar.bQ fun br=>?_
 conv=>whnf
 repeat (refine aa.of ?_;conv=>whnf)
 repeat' (first
  | (refine ar.aj (ak.aH ae rfl rfl (ad:=⟨br,0,none⟩) (k:=376) (L:=E) (v:=s.pe.h.v s.pe.l.length) (aK.row (by simp[Value.cells])) (fun _=>rfl) gP ?_);conv=>whnf)
  | (refine ar.aj (ak.aQ ae rfl rfl (ad:=⟨br,0,none⟩) (k:=371) (L:=E) (m:=[.bool (s.M 0),.bool (s.M 1),.bool (s.M 2),.bool (s.M 3),.bool (s.M 4)]) (aK.row (by simp[Value.cells])) rfl hR.eM rfl ?_);conv=>whnf)
  | (refine ar.aj (ak.Ao (n:=5) (e:=4) (f:=s.M) (g:=fun _=>false) (by kernel_rfl) (by kernel_rfl) (hinfo) (by kernel_rfl) (by kernel_rfl) (fun k hk=>by match k,hk with | 0,_=>exact⟨rfl,rfl⟩ | 1,_=>exact⟨rfl,rfl⟩ | 2,_=>exact⟨rfl,rfl⟩ | 3,_=>exact⟨rfl,rfl⟩ | 4,_=>exact⟨rfl,rfl⟩ | k+5,h=>exact absurd h (by omega)) ?_);conv=>whnf)
  | (split<;>conv=>whnf))
 all_goals rename_i hx
 all_goals refine⟨_,ax.refl _,?_⟩
 all_goals unfold oJ
 · have hz:s.pe.l.length=0:=by
    first
    | (simp[aA] at hx;simp[hx];done)
   rw[decide_eq_true hz]
   have hM:((List.range 5).all fun k=>s.M k == false) = !([s.M 0,s.M 1,s.M 2,s.M 3,s.M 4].any fun y=>true == y):=by
    show(s.M 0 == false&&(s.M 1 == false&&(s.M 2 == false&&(s.M 3 == false&&(s.M 4 == false&&true)))))=_
    generalize s.M 0=a
    generalize s.M 1=b
    generalize s.M 2=c
    generalize s.M 3=d
    generalize s.M 4=e
    cases a<;>cases b<;>cases c<;>cases d<;>cases e<;>rfl
   rw[hM]
   rfl
 · have hz : ¬ s.pe.l.length=0:=by
    intro h0
    rw[h0] at hx
    first
    | (simp[aA] at hx;done)
   rw[decide_eq_false hz]
   rfl
end Go.Proofs.YtlnhdpjnlffaoaaGreatDoor
namespace Go.Proofs.YtlnhdpjnlffaoaaGreatDoor
open Go Go.Sx
set_option maxRecDepth 100000
set_option maxHeartbeats 4000000
set_option linter.unusedVariables false
set_option linter.unusedSimpArgs false
def ec (c n:Int):Bool:=if aR c 48 then aR n 0 else if aR c 97 then true else if aR c 110 then dL n 0 else if aR c 116 then dL n 1 else if aR c 49 then dL n 0&&eW n 1 else if aR c 50 then dL n 0&&eW n 2 else if aR c 53 then dL n 0&&eW n 5 else if aR c 57 then dL n 0&&eW n 9 else if aR c 85 then decide (16≤n∧n<32) else if aR c 67 then decide (1≤n∧n≤10) else if aR c 101 then dL n 0&&eW n 24 else if aR c 112 then dL n 0&&fI n 32 else if aR c 102 then dL n 0&&fI n 96 else if aR c 70 then dL n (-1)&&fI n 96 else if aR c 98 then dL n 0&&fI n 160 else if aR c 100 then dL n 1&&eW n 4 else if aR c 115 then dL n 0&&fI n 20 else if aR c 120 then dL n 1&&eW n 7 else if aR c 111 then dL n 1&&eW n 6 else if aR c 119 then dL n 1&&eW n 6 else if aR c 114 then dL n 1&&eW n 3 else if aR c 107 then dL n 0&&eW n 255 else false
theorem vt (c n:Int):af Tryz.prog 224 [.int .u8 c,.int .i64 n] (fun _=>True) (fun v F=>v = .bool (ec c n)):=by
 have h1:=dX n
 have h2:=eG n
 unfold ec
 generalize decide (16≤n∧n<32)=q1 at *
 generalize decide (1≤n∧n≤10)=q2 at *
 refine af.aG ae Tryz.func224 rfl (by decide) (n:=Tryz.f224.ntmps - 2) rfl rfl fun w0 av=>?_
 conv=>whnf
 repeat (refine aa.of ?_;conv=>whnf)
 repeat' (first
  | (refine aa.of ?_;conv=>whnf)
  | (refine aw.val h1 (fun w hw=>trivial) (fun v D hv=>?_);subst hv;conv=>whnf)
  | (refine aw.val h2 (fun w hw=>trivial) (fun v D hv=>?_);subst hv;conv=>whnf)
  | (refine bF.split (fun h=>?_) (fun h=>?_)<;>conv=>whnf))
 all_goals refine⟨_,ax.refl _,?_⟩
 all_goals first
  | (simp only[*,if_true,if_false,Bool.false_eq_true,Bool.true_and,Bool.false_and];done)
  | (exfalso;simp_all;done)
  | (simp only[aA,beq_iff_eq,beq_eq_false_iff_ne] at *;subst_vars;simp[aA];rfl)
def cW (l:List UInt8) (A:List Int):Bool:=allI 4 fun i=>ec (cz l i) A[i]!
theorem sT (l:List UInt8) (hl:l.length≤1000) (A:List Int) (hA:A.length=4):af Tryz.prog 169 [eJ l,.agg ⟨A.map bH⟩] (fun _=>True) (fun v F=>v = .bool (cW l A)):=by
 obtain⟨a0,a1,a2,a3,rfl⟩ : ∃ a0 a1 a2 a3,A = [a0,a1,a2,a3]:=by
  rcases A with _ | ⟨a,_ | ⟨b,_ | ⟨c,_ | ⟨d,_ | ⟨e,A⟩⟩⟩⟩⟩<;>simp at hA
  exact⟨a,b,c,d,rfl⟩
 refine af.aG ae Tryz.func169 rfl (by decide) (n:=Tryz.f169.ntmps - 2) rfl rfl fun w0 av=>?_
 conv=>whnf
 repeat (refine aa.of ?_;conv=>whnf)
 intro b1
 conv=>whnf
 repeat (refine aa.of ?_;conv=>whnf)
 refine az.loop ae (ι:=Nat) ([5,6]++List.range' 7 17) (fun x=>x≤4∧∀ j,j<x→ec (cz l j) [a0,a1,a2,a3][j]! = true)
  (fun x=>[(5,.v (.int .i64 (x:Int)))]) (fun _=>[[a0,a1,a2,a3].map bH]) (fun _=>⟨fun _=>True,[]⟩)
  (fun x=>4 - x) 0 ⟨Nat.zero_le _,fun j h=>by omega⟩ ?_ rfl (ax.refl _) fun i hi=>?_
 · conv=>whnf
   repeat (first | exact au.nil | refine au.any ?_ | refine au.cons ?_)
 obtain⟨hi,hall⟩:=hi
 conv=>whnf
 repeat (refine aa.of ?_;conv=>whnf)
 refine bF.split (fun hlt=>?_) (fun hlt=>?_)
 · have hlt':i<4:=by
    simp[ao] at hlt
    omega
   have h1:=vt (cz l i) [a0,a1,a2,a3][i]!
   obtain⟨q,hq⟩ : ∃ q,ec (cz l i) [a0,a1,a2,a3][i]! = q:=⟨_,rfl⟩
   rw[hq] at h1
   obtain⟨m,hm⟩ : ∃ m,[a0,a1,a2,a3][i]! = m:=⟨_,rfl⟩
   rw[hm] at h1
   have hget:([a0,a1,a2,a3].map bH)[i]? = some (.int .i64 m):=by
    rw[List.getElem?_map,List.getElem?_eq_getElem (by simpa using hlt')]
    rw[bn (by simpa using hlt')] at hm
    rw[hm]
    rfl
   have hw1:IntKind.i64.wrap (i:Int)=(i:Int):=wrap_i64 (by omega)
   conv=>whnf
   repeat (refine aa.of ?_;conv=>whnf)
   by_cases hc:i<l.length
   · have hb:fI (i:Int) (l.length:Int)=true:=by simp[ao];omega
     have hcl:cz l i=(l[i].toNat:Int):=by
      unfold cz
      rw[if_pos hc,bn hc]
     rw[hcl] at h1
     refine bF.yes hb ?_
     conv=>whnf
     repeat (refine aa.of ?_;conv=>whnf)
     refine ar.aj (ak.uN ae (t:=9) rfl rfl (l:=l) i rfl hc ?_)
     conv=>whnf
     repeat (refine aa.of ?_;conv=>whnf)
     rw[w3 hlt']
     conv=>whnf
     repeat (refine aa.of ?_;conv=>whnf)
     repeat' (first
      | (refine nB (x:=.int .i64 m) (by simpa using hget) ?_;conv=>whnf)
      | (refine aw.val h1 (fun w hw=>trivial) (fun v D hv=>?_);subst hv;cases q<;>conv=>whnf))
     · exact⟨_,ax.refl _,by unfold cW;rw[aJ hlt' (by simpa using hq)]⟩
     · refine⟨i+1,⟨⟨hlt',fun j hj=>?_⟩,by dsimp only;omega⟩,?_,?_,ax.refl _⟩
       · rcases Nat.lt_or_eq_of_le (Nat.lt_succ_iff.1 hj) with h5 | h5
         · exact hall j h5
         · exact h5 ▸ hq
       · conv=>whnf
         refine⟨?_,rfl⟩
         repeat (first | exact au.nil | refine au.any ?_ | refine au.cons ?_ | refine au.eq (by rw[wrap_i64 (by omega)];rfl) ?_)
       · conv=>whnf
         exact⟨⟨rfl,rfl⟩,trivial⟩
   · have hb:fI (i:Int) (l.length:Int)=false:=by simp[ao];omega
     have hcl:cz l i=48:=by
      unfold cz
      rw[if_neg hc]
     rw[hcl] at h1
     refine bF.no hb ?_
     conv=>whnf
     repeat (refine aa.of ?_;conv=>whnf)
     rw[w3 hlt']
     conv=>whnf
     repeat (refine aa.of ?_;conv=>whnf)
     repeat' (first
      | (refine nB (x:=.int .i64 m) (by simpa using hget) ?_;conv=>whnf)
      | (refine aw.val h1 (fun w hw=>trivial) (fun v D hv=>?_);subst hv;cases q<;>conv=>whnf))
     · exact⟨_,ax.refl _,by unfold cW;rw[aJ hlt' (by simpa using hq)]⟩
     · refine⟨i+1,⟨⟨hlt',fun j hj=>?_⟩,by dsimp only;omega⟩,?_,?_,ax.refl _⟩
       · rcases Nat.lt_or_eq_of_le (Nat.lt_succ_iff.1 hj) with h5 | h5
         · exact hall j h5
         · exact h5 ▸ hq
       · conv=>whnf
         refine⟨?_,rfl⟩
         repeat (first | exact au.nil | refine au.any ?_ | refine au.cons ?_ | refine au.eq (by rw[wrap_i64 (by omega)];rfl) ?_)
       · conv=>whnf
         exact⟨⟨rfl,rfl⟩,trivial⟩
 · have hie:i=4:=by
    simp[ao] at hlt
    omega
   subst hie
   conv=>whnf
   repeat (refine aa.of ?_;conv=>whnf)
   exact⟨_,ax.refl _,by unfold cW;rw[aV hall]⟩
def cH (k:Int):List UInt8×Int:=if aR k 1 then ([115,97,97,97],128) else if aR k 2 then ([112,49],0) else if aR k 3 then ([100,110,97,97],128) else if aR k 4 then ([97,110],0) else if aR k 5 then ([67,120],0) else if aR k 6 then ([110],0) else if aR k 7 then ([110],0) else if aR k 8 then ([85,85],0) else if aR k 12 then ([85,85],0) else if aR k 9 then ([85],1536) else if aR k 10 then ([85],0) else if aR k 14 then ([85],0) else if aR k 16 then ([85],0) else if aR k 17 then ([85],0) else if aR k 11 then ([85,101,110],0) else if aR k 13 then ([85],128) else if aR k 15 then ([85,101],1536) else if aR k 18 then ([111,97,97,97],128) else if aR k 19 then ([101,97,53],1536) else if aR k 20 then ([49,98,70],128) else if aR k 21 then ([101,98],128) else if aR k 22 then ([50,85,110],128) else if aR k 23 then ([85,101],128) else if aR k 24 then ([119,97,97,97],128) else if aR k 25 then ([85,101,97],128) else if aR k 26 then ([57,97],128) else ([101,97],128)
theorem xM (k:Int):af Tryz.prog 167 [.int .i64 k] (fun _=>True) (fun v F=>v = .tuple ⟨[eJ (cH k).1,.int .i64 (cH k).2]⟩):=by
 refine af.aG ae Tryz.func167 rfl (by decide) (n:=Tryz.f167.ntmps - 1) rfl rfl fun w0 av=>?_
 conv=>whnf
 repeat (refine aa.of ?_;conv=>whnf)
 repeat' (first
  | (refine bF.split (fun h=>?_) (fun h=>?_)<;>conv=>whnf))
 all_goals refine⟨_,ax.refl _,?_⟩
 all_goals first
  | (unfold cH;simp only[*,if_true,if_false,Bool.false_eq_true];rfl)
  | (exfalso;simp only[Bool.false_eq_true,Bool.true_eq_false, *] at *;done)
def df (c:Int):Int:=if fI c 0||dL c 20 then 0 else if eW c 5 then 3 else if aR c 6 then 4 else if aR c 18||aR c 19 then 10 else 5
def db (c:Int):Bool:=!(fI c 0||dL c 20)
theorem qT (c:Int):af Tryz.prog 222 [.int .i64 c] (fun _=>True) (fun v F=>v = .tuple ⟨[.int .i64 (df c),.bool (db c)]⟩):=by
 refine af.aG ae Tryz.func222 rfl (by decide) (n:=Tryz.f222.ntmps - 1) rfl rfl fun w0 av=>?_
 conv=>whnf
 repeat (refine aa.of ?_;conv=>whnf)
 repeat' (first
  | (refine aa.of ?_;conv=>whnf)
  | (refine bF.split (fun h=>?_) (fun h=>?_)<;>conv=>whnf))
 all_goals exact⟨_,ax.refl _,by unfold df db;first | (simp_all;done) | (cases hx:fI c 0<;>cases hy:dL c 20<;>cases hz:aR c 18<;>cases hu:aR c 19<;>simp_all)⟩
def dg (d:Int):Int:=if aR d 1 then 7 else if aR d 2 then 8 else if aR d 3 then 9 else if aR d 4 then 10 else 0
def c8 (d:Int):Bool:=if aR d 1 then true else if aR d 2 then true else if aR d 3 then true else aR d 4
theorem qH (d:Int):af Tryz.prog 223 [.int .i64 d] (fun _=>True) (fun v F=>v = .tuple ⟨[.int .i64 (dg d),.bool (c8 d)]⟩):=by
 refine af.aG ae Tryz.func223 rfl (by decide) (n:=Tryz.f223.ntmps - 1) rfl rfl fun w0 av=>?_
 conv=>whnf
 repeat (refine aa.of ?_;conv=>whnf)
 repeat' (first
  | (refine bF.split (fun h=>?_) (fun h=>?_)<;>conv=>whnf))
 all_goals exact⟨_,ax.refl _,by unfold dg c8;first | (simp_all;done) | rfl⟩
def cX (x:Mg):Bool:=if aR x.kind 1 then decide (16≤x.src∧x.src<32)&&(db x.a0&&aR x.dst (df x.a0)) else if aR x.kind 2 then decide (16≤x.src∧x.src<32)&&aR x.dst 4 else if aR x.kind 3 then aR x.src 0&&(c8 x.a0&&aR x.dst (dg x.a0)) else if aR x.kind 4 then aR x.src 0&&decide (1≤x.dst∧x.dst≤10) else if aR x.kind 5 then aR x.src 0&&aR x.dst 1 else if aR x.kind 6 then aR x.src 1&&(decide (1≤x.dst∧x.dst≤10)&&fw x.dst 1) else if aR x.kind 7 then decide (1≤x.src∧x.src≤10)&&(fw x.src 1&&aR x.dst 1) else if aR x.kind 8 then aR x.src 3&&aR x.dst 4 else if aR x.kind 9 then aR x.src 3&&aR x.dst 4 else if aR x.kind 10 then aR x.src 3&&aR x.dst 4 else if aR x.kind 11 then aR x.src 4&&aR x.dst 3 else if aR x.kind 12 then aR x.src 3&&aR x.dst 5 else if aR x.kind 13 then aR x.src 3&&aR x.dst 5 else if aR x.kind 14 then aR x.src 3&&aR x.dst 5 else if aR x.kind 15 then aR x.src 5&&aR x.dst 3 else if aR x.kind 16 then aR x.src 3&&aR x.dst 10 else if aR x.kind 17 then aR x.src 10&&aR x.dst 3 else if aR x.kind 18 then aR x.src 5&&aR x.dst 6 else if aR x.kind 19 then aR x.src 6&&aR x.dst 5 else if aR x.kind 20 then (aR x.src 4||aR x.src 6)&&aR x.dst 7 else if aR x.kind 21 then aR x.src 7&&(aR x.dst 4||aR x.dst 6) else if aR x.kind 22 then aR x.src 5&&aR x.dst 9 else if aR x.kind 23 then aR x.src 9&&aR x.dst 5 else if aR x.kind 24 then aR x.src 5&&aR x.dst 8 else if aR x.kind 25 then aR x.src 8&&aR x.dst 5 else if aR x.kind 26 then decide (1≤x.src∧x.src≤10)&&aR x.dst 2 else if aR x.kind 27 then aR x.src 2&&decide (1≤x.dst∧x.dst≤10) else false
theorem tQ (x:Mg):af Tryz.prog 168 [.agg ⟨gv x⟩] (fun _=>True) (fun v F=>v = .bool (cX x)):=by
 have h1:=qT x.a0
 have h2:=dX x.src
 have h3:=qH x.a0
 have h4:=eG x.dst
 have h5:=eG x.src
 unfold cX
 generalize df x.a0=t at *
 generalize db x.a0=q1 at *
 generalize decide (16≤x.src∧x.src<32)=q2 at *
 generalize dg x.a0=d at *
 generalize c8 x.a0=q3 at *
 generalize decide (1≤x.dst∧x.dst≤10)=q4 at *
 generalize decide (1≤x.src∧x.src≤10)=q5 at *
 refine af.aG ae Tryz.func168 rfl (by decide) (n:=Tryz.f168.ntmps - 1) rfl rfl fun w0 av=>?_
 conv=>whnf
 repeat (refine aa.of ?_;conv=>whnf)
 intro b1
 conv=>whnf
 repeat (refine aa.of ?_;conv=>whnf)
 repeat' (first
  | (refine aa.of ?_;conv=>whnf)
  | (refine aw.val h1 (fun w hw=>trivial) (fun v D hv=>?_);subst hv;conv=>whnf)
  | (refine aw.val h2 (fun w hw=>trivial) (fun v D hv=>?_);subst hv;conv=>whnf)
  | (refine aw.val h3 (fun w hw=>trivial) (fun v D hv=>?_);subst hv;conv=>whnf)
  | (refine aw.val h4 (fun w hw=>trivial) (fun v D hv=>?_);subst hv;conv=>whnf)
  | (refine aw.val h5 (fun w hw=>trivial) (fun v D hv=>?_);subst hv;conv=>whnf)
  | (refine bF.split (fun h=>?_) (fun h=>?_)<;>conv=>whnf))
 all_goals refine⟨_,ax.refl _,?_⟩
 all_goals first | rfl | (simp only[*,if_true,if_false,cond_true,cond_false,Bool.false_eq_true,Bool.and_true,Bool.true_and,Bool.and_false,Bool.false_and,Bool.or_true,Bool.true_or,Bool.or_false,Bool.false_or,Bool.and_assoc];done) | (simp_all;done)
def cC (x:Mg):Bool:=(aR x.src 6 == fI x.a1 96)&&aR (x.data.n:Int) (if aR x.a0 1&&aR x.a2 (-1) then 128 else 0)
theorem sA (x:Mg):af Tryz.prog 170 [.agg ⟨gv x⟩] (fun _=>True) (fun v F=>v = .bool (cC x)):=by
 unfold cC
 refine af.aG ae Tryz.func170 rfl (by decide) (n:=Tryz.f170.ntmps - 1) rfl rfl fun w0 av=>?_
 conv=>whnf
 repeat (refine aa.of ?_;conv=>whnf)
 intro b1
 conv=>whnf
 repeat (refine aa.of ?_;conv=>whnf)
 repeat' (first
  | (refine aa.of ?_;conv=>whnf)
  | (refine bF.split (fun h=>?_) (fun h=>?_)<;>conv=>whnf)
  | (split<;>conv=>whnf))
 all_goals refine⟨_,ax.refl _,?_⟩
 all_goals first | rfl | (simp_all;done)
def dr (x:Mg):Bool:=if aR x.kind 8 then fw x.a0 x.a1 else if aR x.kind 12 then fw x.a0 x.a1 else if aR x.kind 20 then cC x else if aR x.kind 24 then (aR x.a0 5&&aR x.a1 0)||(fw x.a0 5&&decide (16≤x.a1∧x.a1<32)) else true
def bL (x:Mg):Bool:=cX x&&(cW (cH x.kind).1 [x.a0,x.a1,x.a2,x.a3]&&(!gY (x.data.n:Int) (cH x.kind).2&&(!fI x.seq 0&&dr x)))
theorem Bf {c:Prop} [Decidable c] {a b:List UInt8×Int} (ha:a.1.length≤1000) (hb:b.1.length≤1000):(if c then a else b).1.length≤1000:=by
 split
 · exact ha
 · exact hb
theorem xT (k:Int):(cH k).1.length≤1000:=by
 unfold cH
 repeat (refine Bf (Nat.le_of_ble_eq_true rfl) ?_)
 exact Nat.le_of_ble_eq_true rfl
theorem lF (x:Mg):af Tryz.prog 100 [.agg ⟨gv x⟩] (fun _=>True) (fun v F=>v = .bool (bL x)):=by
 have h1:=xM x.kind
 have h2:=tQ x
 have h3:=sT (cH x.kind).1 (xT _) [x.a0,x.a1,x.a2,x.a3] rfl
 have h4:=sA x
 have h5:=dX x.a1
 unfold bL dr
 generalize (cH x.kind).1=p at *
 generalize (cH x.kind).2=m at *
 generalize cX x=q1 at *
 generalize cW p [x.a0,x.a1,x.a2,x.a3]=q2 at *
 generalize cC x=q3 at *
 generalize decide (16≤x.a1∧x.a1<32)=q4 at *
 obtain⟨gt,hgt⟩ : ∃ b,gY (x.data.n:Int) m=b:=⟨_,rfl⟩
 obtain⟨lt,hlt⟩ : ∃ b,fI x.seq 0=b:=⟨_,rfl⟩
 obtain⟨z5,hz5⟩ : ∃ b,aR x.a0 5=b:=⟨_,rfl⟩
 have hn5:fw x.a0 5 = !z5:=by rw[← hz5,aE,aA];rfl
 rw[hgt,hlt,hz5,hn5]
 refine af.aG ae Tryz.func100 rfl (by decide) (n:=Tryz.f100.ntmps - 1) rfl rfl fun w0 av=>?_
 conv=>whnf
 repeat (refine aa.of ?_;conv=>whnf)
 intro b1
 conv=>whnf
 repeat (refine aa.of ?_;conv=>whnf)
 repeat' (first
  | (refine aa.of ?_;conv=>whnf)
  | (refine aw.val h1 (fun w hw=>trivial) (fun v D hv=>?_);subst hv;conv=>whnf)
  | (refine aw.val h2 (fun w hw=>trivial) (fun v D hv=>?_);subst hv;cases q1<;>conv=>whnf)
  | (refine aw.val h3 (fun w hw=>trivial) (fun v D hv=>?_);subst hv;cases q2<;>conv=>whnf)
  | (refine aw.val h4 (fun w hw=>trivial) (fun v D hv=>?_);subst hv;conv=>whnf)
  | (refine aw.val h5 (fun w hw=>trivial) (fun v D hv=>?_);subst hv;conv=>whnf)
  | (rw[hgt];cases gt<;>conv=>whnf)
  | (rw[hlt];cases lt<;>conv=>whnf)
  | (rw[hz5];cases z5<;>conv=>whnf)
  | (rw[hn5];conv=>whnf)
  | (refine bF.split (fun h=>?_) (fun h=>?_)<;>conv=>whnf)
  | (split<;>conv=>whnf))
 all_goals refine⟨_,ax.refl _,?_⟩
 all_goals first | rfl | (simp_all;done)
theorem fb (f:Nat→Bool):allI 4 f=(f 0&&(f 1&&(f 2&&f 3))):=by
 rw[Bool.eq_iff_iff,dB]
 simp only[Bool.and_eq_true]
 constructor
 · intro h
   exact⟨h 0 (by decide),h 1 (by decide),h 2 (by decide),h 3 (by decide)⟩
 · rintro⟨h0,h1,h2,h3⟩ j hj
   match j,hj with
   | 0,_=>exact h0
   | 1,_=>exact h1
   | 2,_=>exact h2
   | 3,_=>exact h3
   | j+4,h=>exact absurd h (by omega)
theorem CR (src dst seq a0 a1 a2 a3:Int) (data:Bs):bL ⟨src,dst,1,seq,a0,a1,a2,a3,data⟩=bA ⟨src,dst,1,seq,a0,a1,a2,a3,data⟩:=by
 obtain⟨n,hn⟩ : ∃ n:Int,(data.n:Int)=n:=⟨_,rfl⟩
 rw[Bool.eq_iff_iff]
 simp[bL,bA,dr,cC,cX,cH,cW,cV,fb,cz,ec,fQ,c7,cv,de,cD,df,db,eu,ew,dg,c8,en,hn,aA,aE,aD,aB,ao,aC]
 omega
theorem CG (src dst seq a0 a1 a2 a3:Int) (data:Bs):bL ⟨src,dst,2,seq,a0,a1,a2,a3,data⟩=bA ⟨src,dst,2,seq,a0,a1,a2,a3,data⟩:=by
 obtain⟨n,hn⟩ : ∃ n:Int,(data.n:Int)=n:=⟨_,rfl⟩
 rw[Bool.eq_iff_iff]
 simp[bL,bA,dr,cC,cX,cH,cW,cV,fb,cz,ec,fQ,c7,cv,de,cD,df,db,eu,ew,dg,c8,en,hn,aA,aE,aD,aB,ao,aC]
 omega
theorem CH (src dst seq a0 a1 a2 a3:Int) (data:Bs):bL ⟨src,dst,3,seq,a0,a1,a2,a3,data⟩=bA ⟨src,dst,3,seq,a0,a1,a2,a3,data⟩:=by
 obtain⟨n,hn⟩ : ∃ n:Int,(data.n:Int)=n:=⟨_,rfl⟩
 rw[Bool.eq_iff_iff]
 simp[bL,bA,dr,cC,cX,cH,cW,cV,fb,cz,ec,fQ,c7,cv,de,cD,df,db,eu,ew,dg,c8,en,hn,aA,aE,aD,aB,ao,aC]
 omega
theorem CN (src dst seq a0 a1 a2 a3:Int) (data:Bs):bL ⟨src,dst,4,seq,a0,a1,a2,a3,data⟩=bA ⟨src,dst,4,seq,a0,a1,a2,a3,data⟩:=by
 obtain⟨n,hn⟩ : ∃ n:Int,(data.n:Int)=n:=⟨_,rfl⟩
 rw[Bool.eq_iff_iff]
 simp[bL,bA,dr,cC,cX,cH,cW,cV,fb,cz,ec,fQ,c7,cv,de,cD,df,db,eu,ew,dg,c8,en,hn,aA,aE,aD,aB,ao,aC]
 omega
theorem Cl (src dst seq a0 a1 a2 a3:Int) (data:Bs):bL ⟨src,dst,5,seq,a0,a1,a2,a3,data⟩=bA ⟨src,dst,5,seq,a0,a1,a2,a3,data⟩:=by
 obtain⟨n,hn⟩ : ∃ n:Int,(data.n:Int)=n:=⟨_,rfl⟩
 rw[Bool.eq_iff_iff]
 simp[bL,bA,dr,cC,cX,cH,cW,cV,fb,cz,ec,fQ,c7,cv,de,cD,df,db,eu,ew,dg,c8,en,hn,aA,aE,aD,aB,ao,aC]
 omega
theorem Cy (src dst seq a0 a1 a2 a3:Int) (data:Bs):bL ⟨src,dst,6,seq,a0,a1,a2,a3,data⟩=bA ⟨src,dst,6,seq,a0,a1,a2,a3,data⟩:=by
 obtain⟨n,hn⟩ : ∃ n:Int,(data.n:Int)=n:=⟨_,rfl⟩
 rw[Bool.eq_iff_iff]
 simp[bL,bA,dr,cC,cX,cH,cW,cV,fb,cz,ec,fQ,c7,cv,de,cD,df,db,eu,ew,dg,c8,en,hn,aA,aE,aD,aB,ao,aC]
 omega
theorem CI (src dst seq a0 a1 a2 a3:Int) (data:Bs):bL ⟨src,dst,7,seq,a0,a1,a2,a3,data⟩=bA ⟨src,dst,7,seq,a0,a1,a2,a3,data⟩:=by
 obtain⟨n,hn⟩ : ∃ n:Int,(data.n:Int)=n:=⟨_,rfl⟩
 rw[Bool.eq_iff_iff]
 simp[bL,bA,dr,cC,cX,cH,cW,cV,fb,cz,ec,fQ,c7,cv,de,cD,df,db,eu,ew,dg,c8,en,hn,aA,aE,aD,aB,ao,aC]
 omega
theorem CD (src dst seq a0 a1 a2 a3:Int) (data:Bs):bL ⟨src,dst,8,seq,a0,a1,a2,a3,data⟩=bA ⟨src,dst,8,seq,a0,a1,a2,a3,data⟩:=by
 obtain⟨n,hn⟩ : ∃ n:Int,(data.n:Int)=n:=⟨_,rfl⟩
 rw[Bool.eq_iff_iff]
 simp[bL,bA,dr,cC,cX,cH,cW,cV,fb,cz,ec,fQ,c7,cv,de,cD,df,db,eu,ew,dg,c8,en,hn,aA,aE,aD,aB,ao,aC]
 omega
theorem C4 (src dst seq a0 a1 a2 a3:Int) (data:Bs):bL ⟨src,dst,9,seq,a0,a1,a2,a3,data⟩=bA ⟨src,dst,9,seq,a0,a1,a2,a3,data⟩:=by
 obtain⟨n,hn⟩ : ∃ n:Int,(data.n:Int)=n:=⟨_,rfl⟩
 rw[Bool.eq_iff_iff]
 simp[bL,bA,dr,cC,cX,cH,cW,cV,fb,cz,ec,fQ,c7,cv,de,cD,df,db,eu,ew,dg,c8,en,hn,aA,aE,aD,aB,ao,aC]
 omega
theorem AH (src dst seq a0 a1 a2 a3:Int) (data:Bs):bL ⟨src,dst,10,seq,a0,a1,a2,a3,data⟩=bA ⟨src,dst,10,seq,a0,a1,a2,a3,data⟩:=by
 obtain⟨n,hn⟩ : ∃ n:Int,(data.n:Int)=n:=⟨_,rfl⟩
 rw[Bool.eq_iff_iff]
 simp[bL,bA,dr,cC,cX,cH,cW,cV,fb,cz,ec,fQ,c7,cv,de,cD,df,db,eu,ew,dg,c8,en,hn,aA,aE,aD,aB,ao,aC]
 omega
theorem Ba (src dst seq a0 a1 a2 a3:Int) (data:Bs):bL ⟨src,dst,11,seq,a0,a1,a2,a3,data⟩=bA ⟨src,dst,11,seq,a0,a1,a2,a3,data⟩:=by
 obtain⟨n,hn⟩ : ∃ n:Int,(data.n:Int)=n:=⟨_,rfl⟩
 rw[Bool.eq_iff_iff]
 simp[bL,bA,dr,cC,cX,cH,cW,cV,fb,cz,ec,fQ,c7,cv,de,cD,df,db,eu,ew,dg,c8,en,hn,aA,aE,aD,aB,ao,aC]
 omega
theorem Bz (src dst seq a0 a1 a2 a3:Int) (data:Bs):bL ⟨src,dst,12,seq,a0,a1,a2,a3,data⟩=bA ⟨src,dst,12,seq,a0,a1,a2,a3,data⟩:=by
 obtain⟨n,hn⟩ : ∃ n:Int,(data.n:Int)=n:=⟨_,rfl⟩
 rw[Bool.eq_iff_iff]
 simp[bL,bA,dr,cC,cX,cH,cW,cV,fb,cz,ec,fQ,c7,cv,de,cD,df,db,eu,ew,dg,c8,en,hn,aA,aE,aD,aB,ao,aC]
 omega
theorem AL (src dst seq a0 a1 a2 a3:Int) (data:Bs):bL ⟨src,dst,13,seq,a0,a1,a2,a3,data⟩=bA ⟨src,dst,13,seq,a0,a1,a2,a3,data⟩:=by
 obtain⟨n,hn⟩ : ∃ n:Int,(data.n:Int)=n:=⟨_,rfl⟩
 rw[Bool.eq_iff_iff]
 simp[bL,bA,dr,cC,cX,cH,cW,cV,fb,cz,ec,fQ,c7,cv,de,cD,df,db,eu,ew,dg,c8,en,hn,aA,aE,aD,aB,ao,aC]
 omega
theorem Ar (src dst seq a0 a1 a2 a3:Int) (data:Bs):bL ⟨src,dst,14,seq,a0,a1,a2,a3,data⟩=bA ⟨src,dst,14,seq,a0,a1,a2,a3,data⟩:=by
 obtain⟨n,hn⟩ : ∃ n:Int,(data.n:Int)=n:=⟨_,rfl⟩
 rw[Bool.eq_iff_iff]
 simp[bL,bA,dr,cC,cX,cH,cW,cV,fb,cz,ec,fQ,c7,cv,de,cD,df,db,eu,ew,dg,c8,en,hn,aA,aE,aD,aB,ao,aC]
 omega
theorem BB (src dst seq a0 a1 a2 a3:Int) (data:Bs):bL ⟨src,dst,15,seq,a0,a1,a2,a3,data⟩=bA ⟨src,dst,15,seq,a0,a1,a2,a3,data⟩:=by
 obtain⟨n,hn⟩ : ∃ n:Int,(data.n:Int)=n:=⟨_,rfl⟩
 rw[Bool.eq_iff_iff]
 simp[bL,bA,dr,cC,cX,cH,cW,cV,fb,cz,ec,fQ,c7,cv,de,cD,df,db,eu,ew,dg,c8,en,hn,aA,aE,aD,aB,ao,aC]
 omega
theorem A4 (src dst seq a0 a1 a2 a3:Int) (data:Bs):bL ⟨src,dst,16,seq,a0,a1,a2,a3,data⟩=bA ⟨src,dst,16,seq,a0,a1,a2,a3,data⟩:=by
 obtain⟨n,hn⟩ : ∃ n:Int,(data.n:Int)=n:=⟨_,rfl⟩
 rw[Bool.eq_iff_iff]
 simp[bL,bA,dr,cC,cX,cH,cW,cV,fb,cz,ec,fQ,c7,cv,de,cD,df,db,eu,ew,dg,c8,en,hn,aA,aE,aD,aB,ao,aC]
 omega
theorem A3 (src dst seq a0 a1 a2 a3:Int) (data:Bs):bL ⟨src,dst,17,seq,a0,a1,a2,a3,data⟩=bA ⟨src,dst,17,seq,a0,a1,a2,a3,data⟩:=by
 obtain⟨n,hn⟩ : ∃ n:Int,(data.n:Int)=n:=⟨_,rfl⟩
 rw[Bool.eq_iff_iff]
 simp[bL,bA,dr,cC,cX,cH,cW,cV,fb,cz,ec,fQ,c7,cv,de,cD,df,db,eu,ew,dg,c8,en,hn,aA,aE,aD,aB,ao,aC]
 omega
theorem zZ (src dst seq a0 a1 a2 a3:Int) (data:Bs):bL ⟨src,dst,18,seq,a0,a1,a2,a3,data⟩=bA ⟨src,dst,18,seq,a0,a1,a2,a3,data⟩:=by
 obtain⟨n,hn⟩ : ∃ n:Int,(data.n:Int)=n:=⟨_,rfl⟩
 rw[Bool.eq_iff_iff]
 simp[bL,bA,dr,cC,cX,cH,cW,cV,fb,cz,ec,fQ,c7,cv,de,cD,df,db,eu,ew,dg,c8,en,hn,aA,aE,aD,aB,ao,aC]
 omega
theorem z8 (src dst seq a0 a1 a2 a3:Int) (data:Bs):bL ⟨src,dst,19,seq,a0,a1,a2,a3,data⟩=bA ⟨src,dst,19,seq,a0,a1,a2,a3,data⟩:=by
 obtain⟨n,hn⟩ : ∃ n:Int,(data.n:Int)=n:=⟨_,rfl⟩
 rw[Bool.eq_iff_iff]
 simp[bL,bA,dr,cC,cX,cH,cW,cV,fb,cz,ec,fQ,c7,cv,de,cD,df,db,eu,ew,dg,c8,en,hn,aA,aE,aD,aB,ao,aC]
 omega
theorem Ad (src dst seq a0 a1 a2 a3:Int) (data:Bs):bL ⟨src,dst,20,seq,a0,a1,a2,a3,data⟩=bA ⟨src,dst,20,seq,a0,a1,a2,a3,data⟩:=by
 obtain⟨n,hn⟩ : ∃ n:Int,(data.n:Int)=n:=⟨_,rfl⟩
 rw[Bool.eq_iff_iff]
 by_cases c1:a0=1<;>by_cases c2:a2 = -1<;>by_cases c3:src=6<;>by_cases c4:a1<96<;>simp[bL,bA,dr,cC,cX,cH,cW,cV,fb,cz,ec,fQ,c7,cv,de,cD,df,db,eu,ew,dg,c8,en,hn,aA,aE,aD,aB,ao,aC,c1,c2,c3,c4]
 all_goals try omega
theorem A7 (src dst seq a0 a1 a2 a3:Int) (data:Bs):bL ⟨src,dst,21,seq,a0,a1,a2,a3,data⟩=bA ⟨src,dst,21,seq,a0,a1,a2,a3,data⟩:=by
 obtain⟨n,hn⟩ : ∃ n:Int,(data.n:Int)=n:=⟨_,rfl⟩
 rw[Bool.eq_iff_iff]
 simp[bL,bA,dr,cC,cX,cH,cW,cV,fb,cz,ec,fQ,c7,cv,de,cD,df,db,eu,ew,dg,c8,en,hn,aA,aE,aD,aB,ao,aC]
 omega
theorem AZ (src dst seq a0 a1 a2 a3:Int) (data:Bs):bL ⟨src,dst,22,seq,a0,a1,a2,a3,data⟩=bA ⟨src,dst,22,seq,a0,a1,a2,a3,data⟩:=by
 obtain⟨n,hn⟩ : ∃ n:Int,(data.n:Int)=n:=⟨_,rfl⟩
 rw[Bool.eq_iff_iff]
 simp[bL,bA,dr,cC,cX,cH,cW,cV,fb,cz,ec,fQ,c7,cv,de,cD,df,db,eu,ew,dg,c8,en,hn,aA,aE,aD,aB,ao,aC]
 omega
theorem Au (src dst seq a0 a1 a2 a3:Int) (data:Bs):bL ⟨src,dst,23,seq,a0,a1,a2,a3,data⟩=bA ⟨src,dst,23,seq,a0,a1,a2,a3,data⟩:=by
 obtain⟨n,hn⟩ : ∃ n:Int,(data.n:Int)=n:=⟨_,rfl⟩
 rw[Bool.eq_iff_iff]
 simp[bL,bA,dr,cC,cX,cH,cW,cV,fb,cz,ec,fQ,c7,cv,de,cD,df,db,eu,ew,dg,c8,en,hn,aA,aE,aD,aB,ao,aC]
 omega
theorem Bq (src dst seq a0 a1 a2 a3:Int) (data:Bs):bL ⟨src,dst,24,seq,a0,a1,a2,a3,data⟩=bA ⟨src,dst,24,seq,a0,a1,a2,a3,data⟩:=by
 obtain⟨n,hn⟩ : ∃ n:Int,(data.n:Int)=n:=⟨_,rfl⟩
 rw[Bool.eq_iff_iff]
 by_cases c1:a0=5<;>simp[bL,bA,dr,cC,cX,cH,cW,cV,fb,cz,ec,fQ,c7,cv,de,cD,df,db,eu,ew,dg,c8,en,hn,aA,aE,aD,aB,ao,aC,c1]
 all_goals try omega
theorem AE (src dst seq a0 a1 a2 a3:Int) (data:Bs):bL ⟨src,dst,25,seq,a0,a1,a2,a3,data⟩=bA ⟨src,dst,25,seq,a0,a1,a2,a3,data⟩:=by
 obtain⟨n,hn⟩ : ∃ n:Int,(data.n:Int)=n:=⟨_,rfl⟩
 rw[Bool.eq_iff_iff]
 simp[bL,bA,dr,cC,cX,cH,cW,cV,fb,cz,ec,fQ,c7,cv,de,cD,df,db,eu,ew,dg,c8,en,hn,aA,aE,aD,aB,ao,aC]
 omega
theorem Bd (src dst seq a0 a1 a2 a3:Int) (data:Bs):bL ⟨src,dst,26,seq,a0,a1,a2,a3,data⟩=bA ⟨src,dst,26,seq,a0,a1,a2,a3,data⟩:=by
 obtain⟨n,hn⟩ : ∃ n:Int,(data.n:Int)=n:=⟨_,rfl⟩
 rw[Bool.eq_iff_iff]
 simp[bL,bA,dr,cC,cX,cH,cW,cV,fb,cz,ec,fQ,c7,cv,de,cD,df,db,eu,ew,dg,c8,en,hn,aA,aE,aD,aB,ao,aC]
 omega
theorem A0 (src dst seq a0 a1 a2 a3:Int) (data:Bs):bL ⟨src,dst,27,seq,a0,a1,a2,a3,data⟩=bA ⟨src,dst,27,seq,a0,a1,a2,a3,data⟩:=by
 obtain⟨n,hn⟩ : ∃ n:Int,(data.n:Int)=n:=⟨_,rfl⟩
 rw[Bool.eq_iff_iff]
 simp[bL,bA,dr,cC,cX,cH,cW,cV,fb,cz,ec,fQ,c7,cv,de,cD,df,db,eu,ew,dg,c8,en,hn,aA,aE,aD,aB,ao,aC]
 omega
theorem Bu (x:Mg):bL x=bA x:=by
 obtain⟨src,dst,kind,seq,a0,a1,a2,a3,data⟩:=x
 by_cases hk:1≤kind∧kind<28
 · obtain rfl | rfl | rfl | rfl | rfl | rfl | rfl | rfl | rfl | rfl | rfl | rfl | rfl | rfl | rfl | rfl | rfl | rfl | rfl | rfl | rfl | rfl | rfl | rfl | rfl | rfl | rfl:kind=1∨kind=2∨kind=3∨kind=4∨kind=5∨kind=6∨kind=7∨kind=8∨kind=9∨kind=10∨kind=11∨kind=12∨kind=13∨kind=14∨kind=15∨kind=16∨kind=17∨kind=18∨kind=19∨kind=20∨kind=21∨kind=22∨kind=23∨kind=24∨kind=25∨kind=26∨kind=27:=by omega
   · exact CR ..
   · exact CG ..
   · exact CH ..
   · exact CN ..
   · exact Cl ..
   · exact Cy ..
   · exact CI ..
   · exact CD ..
   · exact C4 ..
   · exact AH ..
   · exact Ba ..
   · exact Bz ..
   · exact AL ..
   · exact Ar ..
   · exact BB ..
   · exact A4 ..
   · exact A3 ..
   · exact zZ ..
   · exact z8 ..
   · exact Ad ..
   · exact A7 ..
   · exact AZ ..
   · exact Au ..
   · exact Bq ..
   · exact AE ..
   · exact Bd ..
   · exact A0 ..
 · have h1:bA ⟨src,dst,kind,seq,a0,a1,a2,a3,data⟩=false:=by
    unfold bA
    dsimp only
    rw[if_pos]
    simp[ao,aD]
    omega
   have h2:cX ⟨src,dst,kind,seq,a0,a1,a2,a3,data⟩=false:=by
    unfold cX
    dsimp only
    simp only[aA]
    have e : ∀ k:Int,1≤k→k<28→(kind == k)=false:=fun k h1 h2=>by
     rw[beq_eq_false_iff_ne]
     omega
    simp only[e 1 (by decide) (by decide),e 2 (by decide) (by decide),e 3 (by decide) (by decide),e 4 (by decide) (by decide),e 5 (by decide) (by decide),e 6 (by decide) (by decide),e 7 (by decide) (by decide),e 8 (by decide) (by decide),e 9 (by decide) (by decide),e 10 (by decide) (by decide),e 11 (by decide) (by decide),e 12 (by decide) (by decide),e 13 (by decide) (by decide),e 14 (by decide) (by decide),e 15 (by decide) (by decide),e 16 (by decide) (by decide),e 17 (by decide) (by decide),e 18 (by decide) (by decide),e 19 (by decide) (by decide),e 20 (by decide) (by decide),e 21 (by decide) (by decide),e 22 (by decide) (by decide),e 23 (by decide) (by decide),e 24 (by decide) (by decide),e 25 (by decide) (by decide),e 26 (by decide) (by decide),e 27 (by decide) (by decide),Bool.false_eq_true,if_false]
   rw[h1]
   unfold bL
   rw[h2]
   rfl
def ve (x:Mg):Bool:=!bA x || !decide (1≤x.dst∧x.dst≤10)
theorem lN (s:bW) (E:List Value) (hR:dJ s E) (hl:E.length=380) (hw:s.Wide):af Tryz.prog 56 [.agg ⟨E⟩] s.Rows (fun v F=>v = .bool (s6 s)):=by
 unfold s6
 rw[show(s.q.l.any fun x=>!bA x || !decide (1≤x.dst∧x.dst≤10))=s.q.l.any ve from rfl,fM s.q.l,Bool.not_not]
 have hrQ : ∀ w,s.Rows w→ai w s.q.h.a (s.q.l.flatMap gv):=fun w h=>h.q
 have gQ:=cellOf hR.ePo (j:=0) (by decide) rfl
 have hqh:=hw.q.h
 have hql:=hw.q.le
 rw[show s.q.v=s.q.h.v s.q.l.length from rfl] at gQ
 generalize s.q.h=qh at *
 generalize s.q.l=ql at *
 have hEl:E.length=380:=hl
 refine af.aG ae Tryz.func56 rfl (by decide) (n:=Tryz.f56.ntmps - 1) rfl rfl fun w0 av=>?_
 conv=>whnf
 repeat (refine aa.of ?_;conv=>whnf)
 refine ar.bQ fun br=>?_
 conv=>whnf
 repeat (refine aa.of ?_;conv=>whnf)
 refine az.loop ae (ι:=Nat) ([3]++List.range' 4 27) (fun z=>z≤ql.length∧∀ j,j<z→cU ql ve j=true)
  (fun z=>[(3,.v (.int .i64 (z:Int)))]) (fun _=>[]) (fun _=>⟨s.Rows,[(br,Row.c E)]⟩)
  (fun z=>ql.length - z) 0 ⟨Nat.zero_le _,fun j h=>by omega⟩ ?_ rfl (ax.of_le ⟨by simp[Value.cells],fun w hw=>hw⟩) fun i hi=>?_
 · conv=>whnf
   repeat (first | exact au.nil | refine au.any ?_ | refine au.cons ?_)
 obtain⟨hi,hall⟩:=hi
 conv=>whnf
 repeat (refine aa.of ?_;conv=>whnf)
 repeat' (first
  | (refine ar.aj (ak.aH ae rfl rfl (ad:=⟨br,0,none⟩) (k:=267) (L:=E) (v:=qh.v ql.length) (aK.row (by simp[Value.cells])) (fun _=>rfl) gQ ?_);conv=>whnf))
 refine bF.split (fun hlt=>?_) (fun hlt=>?_)
 · have hlt':i<ql.length:=by
    simp only[ao,decide_eq_true_eq] at hlt
    omega
   have hok:cU ql ve i=(!ve ql[i]):=by
    unfold cU
    rw[bn hlt']
   have hnext:cU ql ve i=true→∀ j,j<i+1→cU ql ve j=true:=fun hs j hj=>by
    rcases Nat.lt_or_eq_of_le (Nat.lt_succ_iff.1 hj) with h5 | h5
    · exact hall j h5
    · exact h5 ▸ hs
   have h1:=lF ql[i]
   have h2:=eG ql[i].dst
   rw[Bu] at h1
   rw[show ve ql[i]=(!bA ql[i] || !decide (1≤ql[i].dst∧ql[i].dst≤10)) from rfl] at hok
   obtain⟨q1,hq1⟩ : ∃ q,bA ql[i]=q:=⟨_,rfl⟩
   obtain⟨q2,hq2⟩ : ∃ q,decide (1≤ql[i].dst∧ql[i].dst≤10)=q:=⟨_,rfl⟩
   rw[hq1] at h1 hok
   rw[hq2] at h2 hok
   clear hq1 hq2
   conv=>whnf
   repeat (refine aa.of ?_;conv=>whnf)
   repeat' (first
    | (refine ar.aj (ak.aH ae rfl rfl (ad:=⟨br,0,none⟩) (k:=267) (L:=E) (v:=qh.v ql.length) (aK.row (by simp[Value.cells])) (fun _=>rfl) gQ ?_);conv=>whnf)
    | (refine ar.aj (ak.index ae (t:=27) rfl rfl rfl (by first | omega) (by first | omega) hqh.nil fun ad had=>?_);conv=>whnf)
    | (refine ar.aj (ak.aQ ae rfl rfl (ad:=ad) (k:=i*9) (L:=ql.flatMap gv) (m:=gv ql[i]) (.fact fun w hw=>had ▸ hrQ w hw) ?adr (a8 (cf:=gv) (z:=9) (fun _=>rfl) hlt') rfl ?_);(case adr=>first | rfl);conv=>whnf)
    | (refine ar.aj (ak.aH ae rfl rfl (ad:=ad) (k:=i*9+1) (L:=ql.flatMap gv) (v:=.int .i64 ql[i].dst) (.fact fun w hw=>had ▸ hrQ w hw) ?adr (bY (cf:=gv) (z:=9) (fun _=>rfl) hlt' (by decide)) ?_);(case adr=>intro hs;first | rfl | (rw[Addr.bD hs];rfl));conv=>whnf)
    | (refine aw.val h1 (fun w hw=>trivial) (fun v D hv=>?_);subst hv;cases q1<;>conv=>whnf)
    | (refine aw.val h2 (fun w hw=>trivial) (fun v D hv=>?_);subst hv;cases q2<;>conv=>whnf))
   · exact⟨_,ax.refl _,by rw[aJ hlt' (by rw[hok];rfl)]⟩
   · exact⟨_,ax.refl _,by rw[aJ hlt' (by rw[hok];rfl)]⟩
   · refine⟨i+1,⟨⟨hlt',hnext (by rw[hok];rfl)⟩,by dsimp only;omega⟩,?_,?_,ax.refl _⟩
     · conv=>whnf
       refine⟨?_,rfl⟩
       repeat (first | exact au.nil | refine au.any ?_ | refine au.cons ?_ | refine au.eq (by rw[wrap_i64 (by omega)];rfl) ?_)
     · conv=>whnf
       exact trivial
 · have hie:i=ql.length:=by
    simp only[ao,decide_eq_false_iff_not] at hlt
    omega
   subst hie
   conv=>whnf
   repeat (refine aa.of ?_;conv=>whnf)
   exact⟨_,ax.refl _,by rw[aV hall]⟩
def s4 (q:List Int) (i:Nat):Nat:=q.countP fun y=>aR y (i:Int)
def gw (q:List Int):Nat→Nat
 | 0=>0
 | n+1=>gw q n+s4 q n
def m8 (T:Nat→gU) (q:List Int) (i:Nat):Bool:=decide (s4 q i=if lS T i then 1 else 0)
theorem uY : ∀ n,gw [] n=0
 | 0=>rfl
 | n+1=>by
  unfold gw
  rw[uY n]
  rfl
theorem qX (x:Int) (q:List Int) : ∀ n:Nat,gw (x::q) n=gw q n+(if 0≤x∧x<(n:Int) then 1 else 0)
 | 0=>by
  rw[if_neg (by omega)]
  rfl
 | n+1=>by
  have ih:=qX x q n
  have hc:s4 (x::q) n=s4 q n+(if x=(n:Int) then 1 else 0):=by
   unfold s4
   rw[List.countP_cons]
   by_cases h:x=(n:Int)<;>simp[aA,h]
  unfold gw
  rw[ih,hc]
  by_cases h:x=(n:Int)
  · rw[if_neg (by omega),if_pos h,if_pos (by omega)]
    omega
  · rw[if_neg h]
    by_cases h2:0≤x∧x<(n:Int)
    · rw[if_pos h2,if_pos (by omega)]
      omega
    · rw[if_neg h2,if_neg (by omega)]
      omega
theorem s3 (n:Nat) : ∀ q:List Int,gw q n≤q.length
 | []=>by
  rw[uY]
  exact Nat.le_refl _
 | x::q=>by
  have:=s3 n q
  rw[qX]
  simp only[List.length_cons]
  split<;>omega
theorem sS (q:List Int) (i:Nat):(q.any fun y=>(i:Int) == y)=decide (1≤s4 q i):=by
 unfold s4
 rw[Bool.eq_iff_iff,decide_eq_true_eq]
 constructor
 · intro h
   obtain⟨y,hy,h2⟩:=List.any_eq_true.1 h
   exact List.countP_pos_iff.2 ⟨y,hy,by simp at h2;simp[aA,h2]⟩
 · intro h
   obtain⟨y,hy,h2⟩:=List.countP_pos_iff.1 h
   exact List.any_eq_true.2 ⟨y,hy,by simp[aA] at h2;simp[h2]⟩
theorem v_ {T:Nat→gU} {q:List Int} : ∀ n,(∀ j,j<n→ot T q j=true)→iA T n≤gw q n
 | 0,_=>Nat.le_refl _
 | n+1,h=>by
  have ih:=v_ n fun j hj=>h j (by omega)
  have h1:=h n (by omega)
  unfold ot at h1
  rw[sS] at h1
  unfold iA gw
  cases he:lS T n
  · simp
    omega
  · rw[he] at h1
    simp at h1 ⊢
    omega
theorem uo {T:Nat→gU} {q:List Int} : ∀ n,(∀ j,j<n→ot T q j=true)→iA T n=gw q n→∀ j,j<n→m8 T q j=true
 | 0,_,_,j,hj=>absurd hj (by omega)
 | n+1,h,he,j,hj=>by
  have h1:=v_ n fun j hj=>h j (by omega)
  have h2:=h n (by omega)
  unfold ot at h2
  rw[sS] at h2
  unfold iA gw at he
  have hn:iA T n=gw q n∧m8 T q n=true:=by
   unfold m8
   cases hx:lS T n
   · rw[hx] at he
     simp at he ⊢
     omega
   · rw[hx] at he h2
     simp at he h2 ⊢
     omega
  by_cases e:j=n
  · rw[e]
    exact hn.2
  · exact uo n (fun j hj=>h j (by omega)) hn.1 j (by omega)
theorem zt {T:Nat→gU} {q:List Int} : ∀ n,(∀ j,j<n→m8 T q j=true)→iA T n=gw q n
 | 0,_=>rfl
 | n+1,h=>by
  have h1:=h n (by omega)
  unfold m8 at h1
  rw[decide_eq_true_eq] at h1
  unfold iA gw
  rw[zt n fun j hj=>h j (by omega),h1]
theorem yA (T:Nat→gU) (q:List Int):(allI 32 (m8 T q)&&decide (gw q 32=q.length))=(allI 32 (ot T q)&&decide (q.length=iA T 32)):=by
 rw[Bool.eq_iff_iff,Bool.and_eq_true,Bool.and_eq_true,dB,dB,decide_eq_true_eq,decide_eq_true_eq]
 have hle:=s3 32 q
 constructor
 · rintro⟨h1,h2⟩
   refine⟨fun j hj=>?_,by rw[zt 32 h1];omega⟩
   have h3:=h1 j hj
   unfold m8 at h3
   unfold ot
   rw[sS]
   rw[decide_eq_true_eq] at h3
   cases hx:lS T j
   · rfl
   · rw[hx] at h3
     simp at h3 ⊢
     omega
 · rintro⟨h1,h2⟩
   have h3:=v_ 32 h1
   have h4:iA T 32=gw q 32:=by omega
   exact⟨uo 32 h1 h4,by omega⟩
theorem yk (q:List Int) (i k:Nat) (h:k<q.length):s4 (q.take (k+1)) i=s4 (q.take k) i+(if aR q[k] (i:Int) then 1 else 0):=by
 unfold s4
 rw[show q.take (k+1)=q.take k ++ [q[k]] by simp,List.countP_append,List.countP_singleton]
theorem CS (q:List Int) (i:Nat):s4 q i≤q.length:=List.countP_le_length
theorem qt (s:bW) (E:List Value) (hR:dJ s E) (hl:E.length=380) (hw:s.Wide):af Tryz.prog 50 [.agg ⟨E⟩] s.Rows (fun v F=>v = .bool (jB s)):=by
 unfold jB
 rw[← yA]
 have hrQ : ∀ w,s.Rows w→ai w s.qu.h.a (s.qu.l.map bH):=fun w h=>h.qu
 have gQ:=hR.eQu
 have hqh:=hw.qu.h
 have hql:=hw.qu.le
 rw[show s.qu.v=s.qu.h.v s.qu.l.length from rfl] at gQ
 generalize s.qu.h=qh at *
 generalize s.qu.l=ql at *
 have hEl:E.length=380:=hl
 refine af.aG ae Tryz.func50 rfl (by decide) (n:=Tryz.f50.ntmps - 1) rfl rfl fun w0 av=>?_
 conv=>whnf
 repeat (refine aa.of ?_;conv=>whnf)
 refine ar.bQ fun br=>?_
 conv=>whnf
 repeat (refine aa.of ?_;conv=>whnf)
 refine az.loop ae (ι:=Nat) (List.range' 3 54) (fun z=>z≤32∧∀ j,j<z→m8 s.T ql j=true)
  (fun z=>[(3,.v (.int .i64 (gw ql z:Int))),(4,.v (.int .i64 (z:Int)))]) (fun _=>[]) (fun _=>⟨s.Rows,[(br,Row.c E)]⟩)
  (fun z=>32 - z) 0 ⟨Nat.zero_le _,fun j h=>by omega⟩ ?_ rfl (ax.of_le ⟨by simp[Value.cells],fun w hw=>hw⟩) fun i hi=>?_
 · conv=>whnf
   repeat (first | exact au.nil | refine au.any ?_ | refine au.cons ?_)
 obtain⟨hi,hall⟩:=hi
 conv=>whnf
 repeat (refine aa.of ?_;conv=>whnf)
 refine bF.split (fun hlt=>?_) (fun hlt=>?_)
 · have hlt':i<32:=by
    simp only[ao,decide_eq_true_eq] at hlt
    omega
   have hnext:m8 s.T ql i=true→∀ j,j<i+1→m8 s.T ql j=true:=fun hs j hj=>by
    rcases Nat.lt_or_eq_of_le (Nat.lt_succ_iff.1 hj) with h5 | h5
    · exact hall j h5
    · exact h5 ▸ hs
   have hok:m8 s.T ql i=decide (s4 ql i=if fw (s.T i).kind 0 then 1 else 0):=rfl
   have gT:=cellOf (hR.eT i hlt') (j:=0) (by decide) rfl
   have hsum:gw ql (i+1)=gw ql i+s4 ql i:=rfl
   have hle:=s3 (i+1) ql
   conv=>whnf
   repeat (refine aa.of ?_;conv=>whnf)
   refine az.loop ae (ι:=Nat) ([5,6]++List.range' 11 16) (fun z=>z≤ql.length)
    (fun z=>[(5,.v (.int .i64 (s4 (ql.take z) i:Int))),(6,.v (.int .i64 (z:Int)))]) (fun _=>[]) (fun _=>⟨s.Rows,[(br,Row.c E)]⟩)
    (fun z=>ql.length - z) 0 (Nat.zero_le _) ?_ rfl (ax.refl _) fun k hk=>?_
   · conv=>whnf
     repeat (first | exact au.nil | refine au.any ?_ | refine au.cons ?_)
   conv=>whnf
   repeat (refine aa.of ?_;conv=>whnf)
   repeat' (first
    | (refine ar.aj (ak.aH ae rfl rfl (ad:=⟨br,0,none⟩) (k:=273) (L:=E) (v:=qh.v ql.length) (aK.row (by simp[Value.cells])) (fun _=>rfl) gQ ?_);conv=>whnf))
   refine bF.split (fun hlk=>?_) (fun hlk=>?_)
   · have hlk':k<ql.length:=by
      simp only[ao,decide_eq_true_eq] at hlk
      omega
     have hct:=yk ql i k hlk'
     have hcl:=CS (ql.take k) i
     rw[List.length_take] at hcl
     obtain⟨b,hb⟩ : ∃ b,aR ql[k] (i:Int)=b:=⟨_,rfl⟩
     rw[hb] at hct
     conv=>whnf
     repeat (refine aa.of ?_;conv=>whnf)
     repeat' (first
      | (refine ar.aj (ak.aH ae rfl rfl (ad:=⟨br,0,none⟩) (k:=273) (L:=E) (v:=qh.v ql.length) (aK.row (by simp[Value.cells])) (fun _=>rfl) gQ ?_);conv=>whnf)
      | (refine ar.aj (ak.index ae (t:=39) rfl rfl rfl (by omega) (by omega) hqh.nil fun ad had=>?_);conv=>whnf)
      | (refine ar.aj (ak.aH ae rfl rfl (ad:=ad) (k:=k) (L:=ql.map bH) (v:=bH ql[k]) (.fact fun w hw=>had ▸ hrQ w hw) (fun hs=>by rw[Nat.mul_one];rfl) (by rw[List.getElem?_map,List.getElem?_eq_getElem hlk'];rfl) ?_);conv=>whnf)
      | (rw[hb];cases b<;>conv=>whnf))
     · refine⟨k+1,⟨hlk',by dsimp only;omega⟩,?_,?_,ax.refl _⟩
       · conv=>whnf
         refine⟨?_,rfl⟩
         repeat (first | exact au.nil | refine au.any ?_ | refine au.cons ?_ | refine au.eq (by rw[wrap_i64 (by omega)];rfl) ?_ | refine au.eq (by rw[hct];rfl) ?_)
       · conv=>whnf
         exact trivial
     · refine⟨k+1,⟨hlk',by dsimp only;omega⟩,?_,?_,ax.refl _⟩
       · conv=>whnf
         refine⟨?_,rfl⟩
         repeat (first | exact au.nil | refine au.any ?_ | refine au.cons ?_ | refine au.eq (by rw[wrap_i64 (by omega)];rfl) ?_ | refine au.eq (by rw[hct,wrap_i64 (by omega)];rfl) ?_)
       · conv=>whnf
         exact trivial
   · have hke:k=ql.length:=by
      simp only[ao,decide_eq_false_iff_not] at hlk
      omega
     have htk:s4 (ql.take k) i=s4 ql i:=by rw[hke,List.take_length]
     rw[htk]
     clear htk hke hk hlk
     have hw2:IntKind.i64.wrap ((gw ql i:Int)+(s4 ql i:Int))=((gw ql (i+1):Nat):Int):=by
      rw[wrap_i64 (by omega)]
      omega
     obtain⟨kd,hkd⟩ : ∃ kd,(s.T i).kind=kd:=⟨_,rfl⟩
     obtain⟨c,hc⟩ : ∃ c,s4 ql i=c:=⟨_,rfl⟩
     rw[hkd,hc] at hok
     rw[hkd] at gT
     rw[hc] at hw2 ⊢
     obtain⟨t1,ht1⟩ : ∃ t,fw kd 0=t:=⟨_,rfl⟩
     obtain⟨t2,ht2⟩ : ∃ t,fw (c:Int) 1=t:=⟨_,rfl⟩
     obtain⟨t3,ht3⟩ : ∃ t,fw (c:Int) 0=t:=⟨_,rfl⟩
     have ht4:aR kd 0 = !t1:=by rw[← ht1,aE,aA,bne,Bool.not_not]
     have hok2:m8 s.T ql i=if t1 then !t2 else !t3:=by
      rw[hok,ht1,← ht2,← ht3]
      cases t1<;>rw[Bool.eq_iff_iff]<;>simp[aE]<;>omega
     clear hok hkd hc
     repeat' (first
      | (refine aa.of ?_;conv=>whnf)
      | (rw[hw2];conv=>whnf)
      | (refine ar.aj (ak.bj ae rfl rfl rfl i rfl (by omega) rfl ?_);conv=>whnf)
      | (refine ar.aj (ak.aH ae rfl rfl (ad:=⟨br,0,none⟩) (k:=i*8+0) (L:=E) (v:=.int .i64 kd) (aK.row (by simp[Value.cells])) (fun _=>Addr.bD rfl _ _) gT ?_);conv=>whnf)
      | (rw[ht1];cases t1<;>conv=>whnf)
      | (rw[ht4];conv=>whnf)
      | (rw[ht2];cases t2<;>conv=>whnf)
      | (rw[ht3];cases t3<;>conv=>whnf))
     all_goals first
      | exact⟨_,ax.refl _,by rw[aJ hlt' (by rw[hok2];rfl)];rfl⟩
      | (
       refine⟨i+1,⟨⟨hlt',hnext (by rw[hok2];rfl)⟩,by dsimp only;omega⟩,?_,?_,ax.refl _⟩;(conv=>whnf);refine⟨?_,rfl⟩;repeat (first | exact au.nil | refine au.any ?_ | refine au.cons ?_ | refine au.eq (by rw[wrap_i64 (by omega)];rfl) ?_)
       (conv=>whnf);exact trivial)
 · have hie:i=32:=by
    simp only[ao,decide_eq_false_iff_not] at hlt
    omega
   subst hie
   rw[aV hall,Bool.true_and]
   generalize gw ql 32=n at *
   conv=>whnf
   repeat (refine aa.of ?_;conv=>whnf)
   repeat' (first
    | (refine ar.aj (ak.aH ae rfl rfl (ad:=⟨br,0,none⟩) (k:=273) (L:=E) (v:=qh.v ql.length) (aK.row (by simp[Value.cells])) (fun _=>rfl) gQ ?_);conv=>whnf))
   exact⟨_,ax.refl _,by congr 1;rw[aA,Bool.eq_iff_iff];simp;omega⟩
theorem pK (s:bW) (E:List Value) (hR:dJ s E) (hl:E.length=380) (hw:s.Wide):af Tryz.prog 51 [.agg ⟨E⟩] s.Rows (fun v F=>v = .bool (t_ s)):=by
 have hrC : ∀ w,s.Rows w→ai w s.cp.h.a (s.cp.l.flatMap bx):=fun w h=>h.cp
 have gC:(E.drop 269).take 2 = [.int .i64 s.nx,s.cp.h.v s.cp.l.length]:=zm hR.eNx hR.eCp
 have gC1:=cellOf gC (j:=1) (by decide) rfl
 have hch:=hw.cp.h
 have hcl:=hw.cp.le
 have hEl:E.length=380:=hl
 refine af.aG ae Tryz.func51 rfl (by decide) (n:=Tryz.f51.ntmps - 1) rfl rfl fun w0 av=>?_
 conv=>whnf
 repeat (refine aa.of ?_;conv=>whnf)
 refine ar.bQ fun br=>?_
 conv=>whnf
 repeat (refine aa.of ?_;conv=>whnf)
 refine ar.build ae (t:=38) rfl rfl rfl (jk.map bH) rfl rfl (by intro v hv;simp[jk,bH] at hv;rcases hv with rfl | rfl | rfl | rfl<;>rfl) (by decide) fun b3=>?_
 conv=>whnf
 repeat (refine aa.of ?_;conv=>whnf)
 refine az.loop ae (ι:=Nat) ([4,5,6]++List.range' 8 48) (fun x=>16≤x∧x≤32∧∀ j,16≤j→j<x→kV s j=true)
  (fun x=>[(4,.v (.int .i64 (x:Int)))]) (fun _=>[]) (fun _=>⟨s.Rows,[(br,Row.c E),(b3,Row.c (jk.map bH))]⟩)
  (fun x=>32 - x) 16 ⟨Nat.le_refl _,by omega,fun j h=>by omega⟩ ?_ rfl (ax.of_le ⟨by first | exact List.Sublist.refl _,fun w hw=>hw⟩) fun i hi=>?_
 · conv=>whnf
   repeat (first | exact au.nil | refine au.any ?_ | refine au.cons ?_)
 obtain⟨hi1,hi,hall⟩:=hi
 conv=>whnf
 repeat (refine aa.of ?_;conv=>whnf)
 refine bF.split (fun hlt=>?_) (fun hlt=>?_)
 · have hlt':i<32:=by
    simp[ao] at hlt
    omega
   have h2:=fS s E hR hl i hlt'
   have hex:kR s i=lS s.T i:=by
    unfold kR lS
    rw[decide_eq_true hi1,Bool.true_and]
   rw[hex] at h2
   have hok:kV s i=(if lS s.T i then jk.all (fun to=>dj s.cp.l (i:Int) ⟨1,to,1⟩) else !(s.cp.l.any fun c=>aR c.owner (i:Int))):=rfl
   have hnext:kV s i=true→∀ j,16≤j→j<i+1→kV s j=true:=fun hs j hj1 hj=>by
    rcases Nat.lt_or_eq_of_le (Nat.lt_succ_iff.1 hj) with h5 | h5
    · exact hall j hj1 h5
    · exact h5 ▸ hs
   generalize lS s.T i=q1 at *
   cases q1
   · rw[if_neg (by decide),fM s.cp.l,Bool.not_not] at hok
     conv=>whnf
     repeat (refine aa.of ?_;conv=>whnf)
     refine az.loop ae (ι:=Nat) ([5]++List.range' 12 21) (fun z=>z=0)
      (fun z=>[(5,.v (.int .i64 (z:Int)))]) (fun _=>[]) (fun _=>⟨s.Rows,[(br,Row.c E),(b3,Row.c (jk.map bH))]⟩)
      (fun z=>0) 0 rfl ?_ rfl (ax.of_le ⟨List.Sublist.refl _,fun w hw=>hw⟩) fun k hk=>?_
     · conv=>whnf
       repeat (first | exact au.nil | refine au.any ?_ | refine au.cons ?_)
     have hk4:fI (k:Int) ((4:Nat):Int)=true:=by rw[hk];simp[ao]
     conv=>whnf
     repeat (refine aa.of ?_;conv=>whnf)
     repeat' (first
      | (rw[hk4];conv=>whnf)
      | (refine ar.aj (ak.aQ ae rfl rfl (ad:=⟨br,0,none⟩) (k:=0) (L:=E) (m:=E) (aK.row (by simp[Value.cells,Fx.and])) rfl (by rw[List.drop_zero];exact List.take_of_length_le (by rw[hEl];exact Nat.le_refl _)) hEl ?_);conv=>whnf)
      | (refine aw.val h2 (fun w hw=>trivial) (fun v D hv=>?_);subst hv;conv=>whnf))
     refine az.loop ae (ι:=Nat) ([6]++List.range' 33 23) (fun z=>z≤s.cp.l.length∧∀ j,j<z→cU s.cp.l (fun c=>aR c.owner (i:Int)) j=true)
      (fun z=>[(6,.v (.int .i64 (z:Int)))]) (fun _=>[]) (fun _=>⟨s.Rows,[(br,Row.c E),(b3,Row.c (jk.map bH))]⟩)
      (fun z=>s.cp.l.length - z) 0 ⟨Nat.zero_le _,fun j h=>by omega⟩ ?_ rfl (ax.of_le ⟨List.Sublist.refl _,fun w hw=>hw⟩) fun k hk=>?_
     · conv=>whnf
       repeat (first | exact au.nil | refine au.any ?_ | refine au.cons ?_)
     obtain⟨hk,hallk⟩:=hk
     conv=>whnf
     repeat (refine aa.of ?_;conv=>whnf)
     repeat' (first
      | (refine ar.aj (ak.aH ae rfl rfl (ad:=⟨br,0,none⟩) (k:=270) (L:=E) (v:=s.cp.h.v s.cp.l.length) (aK.row (by simp[Value.cells])) (fun _=>rfl) gC1 ?_);conv=>whnf))
     rcases Nat.lt_or_ge k s.cp.l.length with hlk | hlk
     · have hb:fI (k:Int) (s.cp.l.length:Int)=true:=by simp[ao];omega
       have hokk:cU s.cp.l (fun c=>aR c.owner (i:Int)) k=(!aR s.cp.l[k].owner (i:Int)):=by
        unfold cU
        rw[bn hlk]
       obtain⟨q,hq⟩ : ∃ q,aR s.cp.l[k].owner (i:Int)=q:=⟨_,rfl⟩
       rw[hq] at hokk
       repeat' (first
        | (rw[hb];conv=>whnf)
        | (refine ar.aj (ak.aQ ae rfl rfl (ad:=⟨br,0,none⟩) (k:=0) (L:=E) (m:=E) (aK.row (by simp[Value.cells,Fx.and])) rfl (by rw[List.drop_zero];exact List.take_of_length_le (by rw[hEl];exact Nat.le_refl _)) hEl ?_);conv=>whnf)
        | (refine aw.val h2 (fun w hw=>trivial) (fun v D hv=>?_);subst hv;conv=>whnf)
        | (refine ar.aj (ak.aH ae rfl rfl (ad:=⟨br,0,none⟩) (k:=270) (L:=E) (v:=s.cp.h.v s.cp.l.length) (aK.row (by simp[Value.cells])) (fun _=>rfl) gC1 ?_);conv=>whnf)
        | (refine ar.aj (ak.index ae (t:=31) rfl rfl rfl (by first | omega) (by first | omega) hch.nil fun ad had=>?_);conv=>whnf)
        | (refine ar.aj (ak.aH ae rfl rfl (ad:=ad) (k:=k*6+2) (L:=s.cp.l.flatMap bx) (v:=.int .i64 s.cp.l[k].owner) (.fact fun w hw=>had ▸ hrC w hw) ?adr (bY (cf:=bx) (z:=6) (fun _=>rfl) hlk (by decide)) ?_);(case adr=>intro hs;first | rfl | (rw[Addr.bD hs];rfl));conv=>whnf)
        | (rw[hq];cases q<;>conv=>whnf))
       all_goals first
        | exact⟨_,ax.refl _,by rw[gJ hi1 hlt' (by rw[hok,aJ hlk (by rw[hokk];rfl)])]⟩
        | (
         refine⟨k+1,⟨⟨hlk,fun j hj=>?_⟩,by dsimp only;omega⟩,?_,?_,ax.refl _⟩
         · rcases Nat.lt_or_eq_of_le (Nat.lt_succ_iff.1 hj) with h5 | h5
           · exact hallk j h5
           · exact h5 ▸ hokk
         · (conv=>whnf);refine⟨?_,rfl⟩;repeat (first | exact au.nil | refine au.any ?_ | refine au.cons ?_ | refine au.eq (by rw[wrap_i64 (by omega)];rfl) ?_)
         · (conv=>whnf);exact trivial)
     · have hb:fI (k:Int) (s.cp.l.length:Int)=false:=by simp[ao];omega
       have hke:k=s.cp.l.length:=by omega
       have hr:kV s i=true:=by
        rw[hok]
        exact aV (hke ▸ hallk)
       repeat' (first
        | (rw[hb];conv=>whnf))
       refine⟨i+1,⟨⟨by omega,hlt',hnext hr⟩,by dsimp only;omega⟩,?_,?_,ax.of_le ⟨List.Sublist.refl _,fun w hw=>hw⟩⟩
       · conv=>whnf
         refine⟨?_,rfl⟩
         repeat (first | exact au.nil | refine au.any ?_ | refine au.cons ?_ | refine au.eq (by rw[wrap_i64 (by omega)];rfl) ?_)
       · conv=>whnf
         exact trivial
   · rw[if_pos rfl] at hok
     conv=>whnf
     repeat (refine aa.of ?_;conv=>whnf)
     refine az.loop ae (ι:=Nat) ([5]++List.range' 12 21) (fun z=>z≤4∧∀ j,j<z→dj s.cp.l (i:Int) ⟨1,jk[j]!,1⟩=true)
      (fun z=>[(5,.v (.int .i64 (z:Int)))]) (fun _=>[]) (fun _=>⟨s.Rows,[(br,Row.c E),(b3,Row.c (jk.map bH))]⟩)
      (fun z=>4 - z) 0 ⟨Nat.zero_le _,fun j h=>by omega⟩ ?_ rfl (ax.of_le ⟨List.Sublist.refl _,fun w hw=>hw⟩) fun k hk=>?_
     · conv=>whnf
       repeat (first | exact au.nil | refine au.any ?_ | refine au.cons ?_)
     obtain⟨hk,hallk⟩:=hk
     conv=>whnf
     repeat (refine aa.of ?_;conv=>whnf)
     rcases Nat.lt_or_ge k 4 with hk' | hk'
     · have hk4:fI (k:Int) ((4:Nat):Int)=true:=by simp[ao];omega
       have h3:=mj (.int .i64 s.nx) s.cp.l s.cp.h hch hcl (i:Int) ⟨1,jk[k]!,1⟩
       obtain⟨q3,hq3⟩ : ∃ q,dj s.cp.l (i:Int) ⟨1,jk[k]!,1⟩=q:=⟨_,rfl⟩
       rw[hq3] at h3
       obtain⟨to,hto⟩ : ∃ x,jk[k]! = x:=⟨_,rfl⟩
       have hget:(jk.map bH)[k]? = some (.int .i64 to):=by
        rw[List.getElem?_map,List.getElem?_eq_getElem (by simpa [jk] using hk'),← hto,bn (by simpa [jk] using hk')]
        rfl
       rw[hto] at h3
       repeat' (first
        | (rw[hk4];conv=>whnf)
        | (refine ar.aj (ak.aQ ae rfl rfl (ad:=⟨br,0,none⟩) (k:=0) (L:=E) (m:=E) (aK.row (by simp[Value.cells,Fx.and])) rfl (by rw[List.drop_zero];exact List.take_of_length_le (by rw[hEl];exact Nat.le_refl _)) hEl ?_);conv=>whnf)
        | (refine aw.val h2 (fun w hw=>trivial) (fun v D hv=>?_);subst hv;conv=>whnf)
        | (refine az.draw ae mixed rfl rfl ?_;conv=>whnf)
        | (refine ak.index ae (t:=38) rfl rfl rfl (by omega) (by omega) (by simp) fun ad had=>?_;conv=>whnf)
        | (refine ak.aH ae rfl rfl (ad:=⟨b3,0,none⟩) (k:=k) (L:=jk.map bH) (v:=.int .i64 to) (aK.row (by simp[Value.cells])) (fun _=>by cases had;simp) hget ?_;conv=>whnf)
        | (refine ak.aQ ae rfl rfl (ad:=⟨br,0,none⟩) (k:=269) (L:=E) (m:=[.int .i64 s.nx,s.cp.h.v s.cp.l.length]) (aK.row (by simp[Value.cells])) rfl gC rfl ?_;conv=>whnf)
        | (refine aw.val h3 (fun w hw=>hrC w hw) (fun v D hv=>?_);subst hv;cases q3<;>conv=>whnf))
       all_goals first
        | exact⟨_,ax.refl _,by rw[gJ hi1 hlt' (by
         rw[hok,List.all_eq_false]
         exact⟨jk[k]!,by rw[bn (by simpa [jk] using hk')];exact List.getElem_mem _,by rw[hq3];decide⟩)]⟩
        | (
         refine⟨k+1,⟨⟨hk',fun j hj=>?_⟩,by dsimp only;omega⟩,?_,?_,ax.refl _⟩
         · rcases Nat.lt_or_eq_of_le (Nat.lt_succ_iff.1 hj) with h5 | h5
           · exact hallk j h5
           · exact h5 ▸ hq3
         · (conv=>whnf);refine⟨?_,rfl⟩;repeat (first | exact au.nil | refine au.any ?_ | refine au.cons ?_ | refine au.eq (by rw[wrap_i64 (by omega)];rfl) ?_)
         · (conv=>whnf);exact trivial)
     · have hk4:fI (k:Int) ((4:Nat):Int)=false:=by simp[ao];omega
       have hke:k=4:=by omega
       have hr:kV s i=true:=by
        rw[hok,List.all_eq_true]
        intro x hx
        obtain⟨j,hj,rfl⟩:=List.getElem_of_mem hx
        have:=hallk j (by simpa [jk,hke] using hj)
        rwa [bn hj] at this
       clear hke hallk
       repeat' (first
        | (rw[hk4];conv=>whnf))
       refine az.loop ae (ι:=Nat) ([6]++List.range' 33 23) (fun z=>z=0)
        (fun z=>[(6,.v (.int .i64 (z:Int)))]) (fun _=>[]) (fun _=>⟨s.Rows,[(br,Row.c E),(b3,Row.c (jk.map bH))]⟩)
        (fun z=>0) 0 rfl ?_ rfl (ax.of_le ⟨List.Sublist.refl _,fun w hw=>hw⟩) fun k2 hk2=>?_
       · conv=>whnf
         repeat (first | exact au.nil | refine au.any ?_ | refine au.cons ?_)
       conv=>whnf
       repeat (refine aa.of ?_;conv=>whnf)
       repeat' (first
        | (refine ar.aj (ak.aH ae rfl rfl (ad:=⟨br,0,none⟩) (k:=270) (L:=E) (v:=s.cp.h.v s.cp.l.length) (aK.row (by simp[Value.cells])) (fun _=>rfl) gC1 ?_);conv=>whnf)
        | (split<;>conv=>whnf)
        | (refine ar.aj (ak.aQ ae rfl rfl (ad:=⟨br,0,none⟩) (k:=0) (L:=E) (m:=E) (aK.row (by simp[Value.cells,Fx.and])) rfl (by rw[List.drop_zero];exact List.take_of_length_le (by rw[hEl];exact Nat.le_refl _)) hEl ?_);conv=>whnf)
        | (refine aw.val h2 (fun w hw=>trivial) (fun v D hv=>?_);subst hv;conv=>whnf))
       all_goals
        refine⟨i+1,⟨⟨by omega,hlt',hnext hr⟩,by dsimp only;omega⟩,?_,?_,ax.of_le ⟨List.Sublist.refl _,fun w hw=>hw⟩⟩
        · conv=>whnf
          refine⟨?_,rfl⟩
          repeat (first | exact au.nil | refine au.any ?_ | refine au.cons ?_ | refine au.eq (by rw[wrap_i64 (by omega)];rfl) ?_)
        · conv=>whnf
          exact trivial
 · have hie:i=32:=by
    simp[ao] at hlt
    omega
   subst hie
   conv=>whnf
   repeat (refine aa.of ?_;conv=>whnf)
   exact⟨_,ax.refl _,by rw[oZ hall]⟩
def vC (l:Lf) (x:En):Option Lf:=
 if (l.al == aR x.kind 3)||((l.cl&&fw x.kind 6)||((aR x.kind 1&&l.ca)||(aR x.kind 2&&(!l.ca||fw l.call x.call)))) then none else
 if aR x.kind 1 then some ⟨true,true,false,x.call⟩ else
 if aR x.kind 4 then some ⟨l.al,l.ca,true,l.call⟩ else
 if aR x.kind 5 then some l else some ⟨fw x.kind 6,false,false,0⟩
theorem Ay {l:Lf} {x:En} (hk:e_ x.kind=true) (hl:l.ca=true→l.al=true):vC l x=qy l x:=by
 obtain⟨al,ca,cl,call⟩:=l
 rw[iP] at hk
 unfold vC qy
 rcases hk with h | h | h | h | h | h
 all_goals
  rw[h]
  cases al<;>cases ca<;>cases cl<;>first | (exact absurd (hl rfl) Bool.false_ne_true) | (simp[aA,aE];done)
theorem Az {l l':Lf} {x:En} (h:qy l x=some l') (hl:l.ca=true→l.al=true):l'.ca=true→l'.al=true:=by
 obtain⟨al,ca,cl,call⟩:=l
 unfold qy at h
 repeat' split at h
 all_goals first
  | (cases h;done)
  | (cases h;simp_all;done)
def gi (LL:List Lf) (x:En):Option (List Lf):=if e_ x.kind then (if 16≤x.task∧x.task<32 then (match vC LL[x.task.toNat]! x with | some l=>some (LL.set x.task.toNat l) | none=>none) else none) else some LL
def kT:List En→List Lf→Option (List Lf)
 | [],LL=>some LL
 | x::r,LL=>match gi LL x with
  | none=>none
  | some LL'=>kT r LL'
def nV (LL:List Lf):Prop:=∀ l∈LL,l.ca=true→l.al=true
theorem tR {LL:List Lf} {x:En} (h32:LL.length=32) (hi:nV LL):gi LL x=eK LL x:=by
 unfold gi eK
 by_cases hk:e_ x.kind=true
 · rw[if_pos hk,if_pos hk]
   by_cases ht:16≤x.task∧x.task<32
   · rw[if_pos ht,if_pos ht]
     have hm:LL[x.task.toNat]!∈LL:=by
      rw[bn (by omega)]
      exact List.getElem_mem _
     rw[Ay hk (hi _ hm)]
     cases qy LL[x.task.toNat]! x<;>rfl
   · rw[if_neg ht,if_neg ht]
 · rw[if_neg hk,if_neg hk]
theorem l0 {LL LL':List Lf} {x:En} (h32:LL.length=32) (hi:nV LL) (h:eK LL x=some LL'):LL'.length=32∧nV LL':=by
 unfold eK at h
 split at h
 · split at h
   · rename_i ht
     cases hf:qy LL[x.task.toNat]! x with
     | none=>
      rw[hf] at h
      cases h
     | some l=>
      rw[hf] at h
      cases h
      have hm:LL[x.task.toNat]!∈LL:=by
       rw[bn (by omega)]
       exact List.getElem_mem _
      refine⟨by rw[List.length_set];exact h32,fun y hy=>?_⟩
      rcases List.mem_or_eq_of_mem_set hy with h2 | h2
      · exact hi y h2
      · exact h2 ▸ Az hf (hi _ hm)
   · cases h
 · cases h
   exact⟨h32,hi⟩
theorem tq : ∀ (l:List En) (LL:List Lf),LL.length=32→nV LL→kT l LL=pa l LL
 | [],_,_,_=>rfl
 | x::r,LL,h32,hi=>by
  unfold kT pa
  rw[tR h32 hi]
  cases h:eK LL x with
  | none=>rfl
  | some LL'=>
   obtain⟨h1,h2⟩:=l0 h32 hi h
   exact tq r LL' h1 h2
theorem wO:nV u9:=by
 unfold nV u9
 decide
theorem x7 (l:List En):kT l u9=pa l u9:=tq l u9 rfl wO
theorem tp : ∀ (l:List En) (LL LL':List Lf),LL.length=32→nV LL→pa l LL=some LL'→LL'.length=32
 | [],LL,LL',h32,_,h=>by
  cases h
  exact h32
 | x::r,LL,LL',h32,hi,h=>by
  unfold pa at h
  cases h2:eK LL x with
  | none=>
   rw[h2] at h
   cases h
  | some L2=>
   rw[h2] at h
   obtain⟨h3,h4⟩:=l0 h32 hi h2
   exact tp r L2 LL' h3 h4 h
def wX (T:Nat→gU) (l:Lf) (i:Nat):Bool:=(l.al == lS T i)&&((l.cl == (T i).cls)&&((l.ca == aR (T i).st 1)&&(!aR (T i).st 1||aR l.call (T i).call)))
theorem zE (T:Nat→gU) (l:Lf) (i:Nat):wX T l i=fy T l i:=by
 unfold wX fy
 have h:fw l.call (T i).call = !aR l.call (T i).call:=by rw[aE,aA];rfl
 rw[h]
 generalize aR l.call (T i).call=a
 generalize aR (T i).st 1=b
 generalize lS T i=c
 obtain⟨al,ca,cl,call⟩:=l
 cases (T i).cls<;>cases a<;>cases b<;>cases c<;>cases al<;>cases ca<;>cases cl<;>rfl
end Go.Proofs.YtlnhdpjnlffaoaaGreatDoor
