/- Parts of the proof: RbQ, RbN, RbO. -/
import Derived.Test.YtlnhdpjnlffaoaaGreatDoorZRbK
import Derived.Test.YtlnhdpjnlffaoaaGreatDoorQT
import Derived.Test.YtlnhdpjnlffaoaaGreatDoorQU
import Derived.Test.YtlnhdpjnlffaoaaGreatDoorQN
namespace Go.Proofs.YtlnhdpjnlffaoaaGreatDoor
open Go Go.Sx
set_option maxRecDepth 100000
set_option maxHeartbeats 4000000
set_option linter.unusedVariables false
set_option linter.unusedSimpArgs false
theorem oG (s:bW) (E:List Value) (hR:dJ s E) (hl:E.length=380) (hw:s.Wide):af Tryz.prog 59 [.agg ⟨E⟩] s.Rows (fun v F=>v = .bool (uS s)):=by
 have hL:=p9 s.rc.l s.rc.h hw.rc.h hw.rc.le
 have hrR : ∀ w,s.Rows w→ai w s.rc.h.a (s.rc.l.flatMap wo):=fun w h=>h.rc
 have gR:=hR.eRc
 rw[show s.rc.v=s.rc.h.v s.rc.l.length from rfl] at gR
 unfold uS
 rw[x7] at hL
 have hlen:=tp s.rc.l u9
 obtain⟨R,hRd⟩ : ∃ R,pa s.rc.l u9=R:=⟨_,rfl⟩
 rw[hRd] at hL hlen ⊢
 have hEl:E.length=380:=hl
 obtain⟨Z,hZ⟩ : ∃ Z,(List.replicate 32 (⟨false,false,false,0⟩:Lf)).flatMap cg=Z:=⟨_,rfl⟩
 have hZl:Z.length=128:=by rw[← hZ];kernel_rfl
 refine af.aG ae Tryz.func59 rfl (by decide) (n:=Tryz.f59.ntmps - 1) rfl rfl fun w0 av=>?_
 conv=>whnf
 repeat (refine aa.of ?_;conv=>whnf)
 refine ar.bQ fun br=>?_
 conv=>whnf
 repeat (refine aa.of ?_;conv=>whnf)
 refine ar.aj (ak.aH ae rfl rfl (ad:=⟨br,0,none⟩) (k:=377) (L:=E) (v:=s.rc.h.v s.rc.l.length) (aK.row (by simp[Value.cells])) (fun _=>rfl) gR ?_)
 conv=>whnf
 repeat (refine aa.of ?_;conv=>whnf)
 refine aw.val hL (fun w hw=>hrR w hw) (fun v D hv=>?_)
 rcases R with _ | LL
 · obtain⟨LL,hLL,rfl⟩:=hv
   have hLe:(LL.flatMap cg).length=128:=by rw[gX (z:=4) (fun _=>rfl),hLL]
   have hL1 : ∀ v∈LL.flatMap cg,a7 v=true:=fun v hv=>by
    obtain⟨y,_,hy⟩:=List.mem_flatMap.1 hv
    simp[cg] at hy
    rcases hy with rfl | rfl | rfl | rfl<;>rfl
   conv=>whnf
   repeat (refine aa.of ?_;conv=>whnf)
   refine ar.cT ae rfl (z:=Z) (by rw[← hZ];kernel_rfl) fun b3=>?_
   conv=>whnf
   repeat (refine aa.of ?_;conv=>whnf)
   refine aP.bZ (F':=⟨s.Rows,[(br,Row.c E)] ++ [(b3,Row.c Z)] ++ []⟩) (ax.of_le ⟨by simp[Fx.and,Value.cells],fun w hw=>hw⟩) ?_
   refine aP.aX ae rfl (b:=b3) (k:=0) (X:=LL.flatMap cg) rfl (by exact hLe) (by exact hL1) (by rw[hZl];exact Nat.le_refl _) (bP (by rw[hZl];exact hLe)) ?_
   conv=>whnf
   repeat (refine aa.of ?_;conv=>whnf)
   refine az.loop ae (ι:=Nat) ([4,5,6,7]++List.range' 14 52) (fun z=>z=16)
    (fun z=>[(4,.v (.bool false)),(5,.v (.int .i64 (z:Int)))]) (fun _=>[]) (fun _=>⟨s.Rows,[(br,Row.c E)] ++ [(b3,Row.c (LL.flatMap cg))] ++ []⟩)
    (fun z=>0) 16 rfl ?_ rfl (ax.refl _) fun i hi=>?_
   · conv=>whnf
     repeat (first | exact au.nil | refine au.any ?_ | refine au.cons ?_)
   have h16:fI (i:Int) 32=true:=by rw[hi];simp[ao]
   conv=>whnf
   repeat (refine aa.of ?_;conv=>whnf)
   repeat' (first
    | (rw[h16];conv=>whnf))
   exact⟨_,ax.refl _,rfl⟩
 · have hv:v = .tuple ⟨[.agg ⟨LL.flatMap cg⟩,.bool true]⟩:=hv
   subst hv
   have hLL:LL.length=32:=hlen LL rfl wO rfl
   have hLe:(LL.flatMap cg).length=128:=by rw[gX (z:=4) (fun _=>rfl),hLL]
   have hL1 : ∀ v∈LL.flatMap cg,a7 v=true:=fun v hv=>by
    obtain⟨y,_,hy⟩:=List.mem_flatMap.1 hv
    simp[cg] at hy
    rcases hy with rfl | rfl | rfl | rfl<;>rfl
   dsimp only
   conv=>whnf
   repeat (refine aa.of ?_;conv=>whnf)
   refine ar.cT ae rfl (z:=Z) (by rw[← hZ];kernel_rfl) fun b3=>?_
   conv=>whnf
   repeat (refine aa.of ?_;conv=>whnf)
   refine aP.bZ (F':=⟨s.Rows,[(br,Row.c E)] ++ [(b3,Row.c Z)] ++ []⟩) (ax.of_le ⟨by simp[Fx.and,Value.cells],fun w hw=>hw⟩) ?_
   refine aP.aX ae rfl (b:=b3) (k:=0) (X:=LL.flatMap cg) rfl (by exact hLe) (by exact hL1) (by rw[hZl];exact Nat.le_refl _) (bP (by rw[hZl];exact hLe)) ?_
   conv=>whnf
   repeat (refine aa.of ?_;conv=>whnf)
   refine az.loop ae (ι:=Nat×Bool) ([4,5,6,7]++List.range' 14 52) (fun x=>x.1≤16∧(x.2=true→∀ j,j<x.1→fy s.T LL[16+j]! (16+j)=true)∧(x.2=false→∃ j,j<16∧fy s.T LL[16+j]! (16+j)=false))
    (fun x=>[(4,.v (.bool x.2)),(5,.v (.int .i64 ((16+x.1:Nat):Int)))]) (fun _=>[]) (fun _=>⟨s.Rows,[(br,Row.c E)] ++ [(b3,Row.c (LL.flatMap cg))] ++ []⟩)
    (fun x=>16 - x.1) (0,true) ⟨Nat.zero_le _,fun _ j h=>by omega,fun h=>by cases h⟩ ?_ rfl (ax.refl _) fun x hx=>?_
   · conv=>whnf
     repeat (first | exact au.nil | refine au.any ?_ | refine au.cons ?_)
   obtain⟨k,ok⟩:=x
   obtain⟨hk,hall,hbad⟩:=hx
   dsimp only at hk hall hbad ⊢
   obtain⟨m,hm⟩ : ∃ m,m=16+k:=⟨_,rfl⟩
   rw[← hm]
   obtain⟨u,hu⟩ : ∃ u,fI (m:Int) 32=u:=⟨_,rfl⟩
   conv=>whnf
   repeat (refine aa.of ?_;conv=>whnf)
   cases ok
   · obtain⟨j,hj,hjb⟩:=hbad rfl
     repeat' (first
      | (rw[hu];cases u<;>conv=>whnf))
     all_goals exact⟨_,ax.refl _,by rw[aJ hj hjb]⟩
   · have hall:=hall rfl
     cases u
     · have hke:k=16:=by
        simp[ao] at hu
        omega
       repeat' (first
        | (rw[hu];conv=>whnf))
       exact⟨_,ax.refl _,by rw[aV (hke ▸ hall)]⟩
     · have hm32:m<32:=by
        simp[ao] at hu
        omega
       have h2:=fS s E hR hl m hm32
       have hex:kR s m=lS s.T m:=by
        unfold kR lS
        rw[decide_eq_true (by omega),Bool.true_and]
       rw[hex] at h2
       have hok:fy s.T LL[16+k]! (16+k)=wX s.T LL[m]! m:=by rw[← hm,zE]
       have hlf:((LL.flatMap cg).drop (m*4)).take 4=cg LL[m]!:=by
        rw[bn (by omega)]
        exact a8 (cf:=cg) (z:=4) (fun _=>rfl) (by omega)
       have gT:=hR.eT m hm32
       unfold wX at hok
       obtain⟨q1,hq1⟩ : ∃ q,lS s.T m=q:=⟨_,rfl⟩
       rw[hq1] at hok h2
       obtain⟨tk,htk⟩ : ∃ t,s.T m=t:=⟨_,rfl⟩
       rw[htk] at hok gT
       obtain⟨e1,he1⟩ : ∃ e,aR tk.st 1=e:=⟨_,rfl⟩
       obtain⟨tc,htc⟩ : ∃ e,tk.cls=e:=⟨_,rfl⟩
       obtain⟨⟨al,ca,cl,cc⟩,hlx⟩ : ∃ l,LL[m]! = l:=⟨_,rfl⟩
       rw[hlx] at hok hlf
       dsimp only at hok
       obtain⟨e2,he2⟩ : ∃ e,aR cc tk.call=e:=⟨_,rfl⟩
       rw[he1,he2,htc] at hok
       clear hq1 hlx hex
       have hnx:fy s.T LL[16+k]! (16+k)=true→∀ j,j<k+1→fy s.T LL[16+j]! (16+j)=true:=fun hs j hj=>by
        rcases Nat.lt_or_eq_of_le (Nat.lt_succ_iff.1 hj) with h5 | h5
        · exact hall j h5
        · exact h5 ▸ hs
       repeat' (first
        | (rw[hu];conv=>whnf)
        | (refine az.draw ae mixed rfl rfl ?_;conv=>whnf)
        | (refine ar.aj (ak.bj ae rfl rfl rfl m rfl (by omega) rfl ?_);conv=>whnf)
        | (refine ak.bj ae rfl rfl rfl m rfl (by omega) rfl ?_;conv=>whnf)
        | (refine ar.aj (ak.aQ ae rfl rfl (ad:=⟨br,0,none⟩) (k:=m*8) (L:=E) (m:=fL tk) (aK.row (by simp)) rfl gT rfl ?_);conv=>whnf)
        | (intro b6;conv=>whnf)
        | (refine ak.aH ae rfl rfl (ad:=⟨b3,0,none⟩) (k:=m*4+0) (L:=LL.flatMap cg) (v:=.bool al) (aK.row (by simp)) (fun _=>Addr.bD rfl _ _) (cellOf hlf (j:=0) (by decide) rfl) ?_;conv=>whnf)
        | (refine ak.aH ae rfl rfl (ad:=⟨b3,0,none⟩) (k:=m*4+2) (L:=LL.flatMap cg) (v:=.bool cl) (aK.row (by simp)) (fun _=>Addr.bD rfl _ _) (cellOf hlf (j:=2) (by decide) rfl) ?_;conv=>whnf)
        | (refine ak.aH ae rfl rfl (ad:=⟨b3,0,none⟩) (k:=m*4+1) (L:=LL.flatMap cg) (v:=.bool ca) (aK.row (by simp)) (fun _=>Addr.bD rfl _ _) (cellOf hlf (j:=1) (by decide) rfl) ?_;conv=>whnf)
        | (refine ak.aH ae rfl rfl (ad:=⟨b3,0,none⟩) (k:=m*4+3) (L:=LL.flatMap cg) (v:=.int .i64 cc) (aK.row (by simp)) (fun _=>Addr.bD rfl _ _) (cellOf hlf (j:=3) (by decide) rfl) ?_;conv=>whnf)
        | (refine ak.aQ ae rfl rfl (ad:=⟨br,0,none⟩) (k:=0) (L:=E) (m:=E) (aK.row (by simp[Value.cells,Fx.and])) rfl (by rw[List.drop_zero];exact List.take_of_length_le (by rw[hEl];exact Nat.le_refl _)) hEl ?_;conv=>whnf)
        | (refine aw.val h2 (fun w hw=>trivial) (fun v D hv=>?_);subst hv;conv=>whnf)
        | (refine cj.same rfl ?_;conv=>whnf)
        | (refine⟨(k+1,true),⟨⟨by dsimp only;omega,fun _=>hnx (hok.trans rfl),fun h=>by cases h⟩,by dsimp only;omega⟩,?fl,?bl,ax.refl _⟩;(case fl=>(conv=>whnf);refine⟨?_,rfl⟩;repeat (first | exact au.nil | refine au.any ?_ | refine au.cons ?_ | refine au.eq (congrArg (fun z=>SV.v (Value.int .i64 z)) (by rw[wrap_i64 (by omega)];omega)) ?_));(case bl=>(conv=>whnf);exact trivial))
        | (refine⟨(k+1,false),⟨⟨by dsimp only;omega,fun h=>(by cases h),fun _=>⟨k,by omega,hok.trans rfl⟩⟩,by dsimp only;omega⟩,?fl,?bl,ax.refl _⟩;(case fl=>(conv=>whnf);refine⟨?_,rfl⟩;repeat (first | exact au.nil | refine au.any ?_ | refine au.cons ?_ | refine au.eq (congrArg (fun z=>SV.v (Value.int .i64 z)) (by rw[wrap_i64 (by omega)];omega)) ?_));(case bl=>(conv=>whnf);exact trivial))
        | (rw[he1];cases e1<;>conv=>whnf)
        | (rw[he2];cases e2<;>conv=>whnf)
        | (rw[htc];cases tc<;>conv=>whnf)
        | (cases q1<;>conv=>whnf)
        | (cases al<;>conv=>whnf)
        | (cases cl<;>conv=>whnf)
        | (cases ca<;>conv=>whnf))
       all_goals (set_option pp.deepTerms false in set_option pp.deepTerms.threshold 6 in set_option pp.maxSteps 600 in trace_state)
       all_goals sorry
theorem AT {wl:List nG} {gl:List Gr} (h : ∀ j,j<gl.length→1≤gl[j]!.rights∧gl[j]!.rights≤3):wl.any (iG gl)=wl.any fun x=>!jT gl 7 x.frame (if x.w then 2 else 1):=by
 congr 1
 funext x
 unfold iG jT
 have hn:1≤(if x.w then (2:Int) else 1)∧(if x.w then (2:Int) else 1)≤3:=by split<;>decide
 rw[decide_eq_true hn,Bool.true_and]
 congr 1
 rw[Bool.eq_iff_iff,List.any_eq_true,List.any_eq_true]
 constructor
 · rintro⟨y,hy,h2⟩
   obtain⟨j,hj,rfl⟩:=List.getElem_of_mem hy
   have h3:=h j hj
   rw[bn hj] at h3
   rw[sB h3 hn] at h2
   exact⟨_,hy,h2⟩
 · rintro⟨y,hy,h2⟩
   obtain⟨j,hj,rfl⟩:=List.getElem_of_mem hy
   have h3:=h j hj
   rw[bn hj] at h3
   rw[← sB h3 hn] at h2
   exact⟨_,hy,h2⟩
theorem y_ {s:bW} (h:eh s=true) : ∀ j,j<s.gr.l.length→1≤s.gr.l[j]!.rights∧s.gr.l[j]!.rights≤3:=fun j hj=>by
 unfold eh at h
 simp only[Bool.and_eq_true] at h
 obtain⟨-,-,-,-,-,-,-,-,-,-,⟨h,-⟩,-⟩:=h
 have:=dB.1 h j hj
 unfold i_ xp at this
 simp only[Bool.and_eq_true,decide_eq_true_eq] at this
 obtain⟨h1,-⟩:=this
 omega
def DU:Nat→FuncId
 | 1=>47
 | 2=>48
 | 3=>49
 | 4=>50
 | 5=>51
 | 6=>52
 | 7=>53
 | 8=>54
 | 9=>55
 | 10=>56
 | 11=>57
 | 12=>58
 | 13=>59
 | 14=>60
 | _=>0
theorem zx (s:bW) (E:List Value) (hR:dJ s E) (hl:E.length=380) (ho:s.Ok) (hd : ∀ i,i<32→(s.T i).data.n≤140737488355328) (l1:s.lk.co.left=0) (l2:s.lk.ci.left=0) (l3:s.se.co.left=0) (l4:s.se.ci.left=0) (k:Nat) (h1:1≤k) (h2:k≤14) (h8:k=8→eh s=true) :
 af Tryz.prog (DU k) [.agg ⟨E⟩] s.Rows (fun v F=>v = .bool (bR s k)):=by
 match k,h1,h2 with
 | 1,_,_=>exact p_ s E hR hl ho l1 l2 l3 l4 (sZ s.nx s.cp.l s.cp.h ho.cp.h ho.cp.le) (pW s.gr.l s.gr.h ho.gr.h ho.gl)
 | 2,_,_=>exact(qO s E hR hl).pre (fun w hw=>trivial)
 | 3,_,_=>exact(mL s E hR hl).pre (fun w hw=>trivial)
 | 4,_,_=>exact qt s E hR hl ho.toWide
 | 5,_,_=>exact pK s E hR hl ho.toWide
 | 6,_,_=>exact(n9 s E hR hl fun i hi=>(ho.sp i hi).le).pre (fun w hw=>trivial)
 | 7,_,_=>exact lU s E hR hl ho
 | 8,_,_=>
  have h:=m9 s E hR hl ho.toWide
  rw[AT (y_ (h8 rfl))] at h
  exact h
 | 9,_,_=>exact qG s E hR hl ho.toWide
 | 10,_,_=>exact lN s E hR hl ho.toWide
 | 11,_,_=>exact(sm s E hR hl).pre (fun w hw=>trivial)
 | 12,_,_=>exact(kg s E hR hl ho.toWide).pre (fun w hw=>trivial)
 | 13,_,_=>exact oG s E hR hl ho.toWide
 | 14,_,_=>exact sC s E hR hl ho.toWide
 | k+15,_,h=>omega
theorem sV (s:bW) (E:List Value) (hl:E.length=380) (k:Nat) (h1:1≤k) (h2:k≤14) (hs:af Tryz.prog (DU k) [.agg ⟨E⟩] s.Rows (fun v F=>v = .bool (bR s k))) :
 af Tryz.prog 23 [.agg ⟨E⟩,.int .i64 (k:Int)] s.Rows (fun v F=>v = .bool (bR s k)):=by
 obtain⟨q,hq⟩ : ∃ q,bR s k=q:=⟨_,rfl⟩
 rw[hq] at hs ⊢
 clear hq
 obtain⟨n,hn⟩ : ∃ n:Int,(k:Int)=n:=⟨_,rfl⟩
 rw[hn]
 have hk:k=1∨k=2∨k=3∨k=4∨k=5∨k=6∨k=7∨k=8∨k=9∨k=10∨k=11∨k=12∨k=13∨k=14:=by omega
 rcases hk with rfl | rfl | rfl | rfl | rfl | rfl | rfl | rfl | rfl | rfl | rfl | rfl | rfl | rfl
 all_goals
  dsimp only[DU] at hs
  refine af.aG ae Tryz.func23 rfl (by decide) (n:=Tryz.f23.ntmps - 2) rfl rfl fun w0 av=>?_
  conv=>whnf
  repeat (refine aa.of ?_;conv=>whnf)
  refine ar.bQ fun br=>?_
  conv=>whnf
  repeat (refine aa.of ?_;conv=>whnf)
  repeat' (first
   | (refine bF.no ?hh ?_;(case hh=>rw[← hn,aA];rfl);conv=>whnf)
   | (refine bF.yes ?hh ?_;(case hh=>rw[← hn,aA];rfl);conv=>whnf)
   | (refine ar.aj (ak.aQ ae rfl rfl (ad:=⟨br,0,none⟩) (k:=0) (L:=E) (m:=E) (aK.row (List.Mem.head _)) rfl (by rw[List.drop_zero];exact List.take_of_length_le (by rw[hl];exact Nat.le_refl _)) hl ?_);conv=>whnf)
   | (refine aw.val hs (fun w hw=>hw) (fun v D hv=>?_);subst hv;conv=>whnf))
  exact⟨_,ax.refl _,rfl⟩
theorem qE (s:bW) (E:List Value) (hR:dJ s E) (hl:E.length=380) (ho:s.Ok) (hd : ∀ i,i<32→(s.T i).data.n≤140737488355328) (l1:s.lk.co.left=0) (l2:s.lk.ci.left=0) (l3:s.se.co.left=0) (l4:s.se.ci.left=0) :
 af Tryz.prog 11 [.agg ⟨E⟩] s.Rows (fun v F=>v = .tuple ⟨[.int .i64 (dA s:Int),.bool (decide (dA s=0))]⟩):=by
 obtain⟨N,hN⟩ : ∃ N,dA s=N:=⟨_,rfl⟩
 rw[hN]
 unfold dA at hN
 refine af.aG ae Tryz.func11 rfl (by decide) (n:=Tryz.f11.ntmps - 1) rfl rfl fun w0 av=>?_
 conv=>whnf
 repeat (refine aa.of ?_;conv=>whnf)
 refine ar.bQ fun br=>?_
 conv=>whnf
 repeat (refine aa.of ?_;conv=>whnf)
 refine az.loop ae (ι:=Nat) (List.range' 4 10) (fun x=>x≤14∧dx s (14 - x) (x+1)=N∧(1≤x→eh s=true))
  (fun x=>[(4,.v (.int .i64 ((x+1:Nat):Int)))]) (fun _=>[]) (fun _=>⟨s.Rows,[(br,Row.c E)]⟩)
  (fun x=>14 - x) 0 ⟨Nat.zero_le _,hN,fun h=>absurd h (by decide)⟩ ?_ rfl (ax.of_le ⟨by simp[Value.cells],fun w hw=>hw⟩) fun i hi=>?_
 · conv=>whnf
   repeat (first | exact au.nil | refine au.any ?_ | refine au.cons ?_)
 obtain⟨hi,hinv,hp⟩:=hi
 conv=>whnf
 repeat (refine aa.of ?_;conv=>whnf)
 refine bF.split (fun hlt=>?_) (fun hlt=>?_)
 · have hlt':i<14:=by
    simp[aC] at hlt
    omega
   have h1:=sV s E hl (i+1) (by omega) (by omega) (zx s E hR hl ho hd l1 l2 l3 l4 (i+1) (by omega) (by omega) fun h=>hp (by omega))
   rw[show 14 - i=(14 - (i+1))+1 from by omega] at hinv
   unfold dx at hinv
   have hp1:bR s (i+1)=true→eh s=true:=fun h=>by
    rcases Nat.eq_zero_or_pos i with h0 | h0
    · subst h0
      exact h
    · exact hp h0
   generalize bR s (i+1)=q at *
   conv=>whnf
   repeat (refine aa.of ?_;conv=>whnf)
   refine ar.aj (ak.aQ ae rfl rfl (ad:=⟨br,0,none⟩) (k:=0) (L:=E) (m:=E) (aK.row (List.Mem.head _)) rfl (by rw[List.drop_zero];exact List.take_of_length_le (by rw[hl];exact Nat.le_refl _)) hl ?_)
   conv=>whnf
   repeat (refine aa.of ?_;conv=>whnf)
   refine aw.val h1 (fun w hw=>hw) (fun v D hv=>?_)
   subst hv
   cases q
   · have hNe:N=i+1:=hinv.symm
     conv=>whnf
     repeat (refine aa.of ?_;conv=>whnf)
     refine⟨_,ax.refl _,?_⟩
     rw[hNe]
     rfl
   · conv=>whnf
     repeat (refine aa.of ?_;conv=>whnf)
     refine⟨i+1,⟨⟨hlt',hinv,fun _=>hp1 rfl⟩,by dsimp only;omega⟩,?_,?_,ax.refl _⟩
     · conv=>whnf
       refine⟨?_,rfl⟩
       repeat (first | exact au.nil | refine au.any ?_ | refine au.cons ?_ | refine au.eq (congrArg (fun z=>SV.v (Value.int .i64 z)) (by rw[wrap_i64 (by omega)];omega)) ?_)
     · conv=>whnf
       exact trivial
 · have hie:i=14:=by
    simp[aC] at hlt
    omega
   subst hie
   have hN0:N=0:=hinv.symm
   rw[hN0]
   conv=>whnf
   repeat (refine aa.of ?_;conv=>whnf)
   exact⟨_,ax.refl _,rfl⟩
theorem nO (s:bW) : ∀ f n k,dx s f n=k→n≤k→k≠0→∀ j,n≤j→j<k→bR s j=true
 | 0,n,k,h,h1,h2,j,h3,h4=>by
  unfold dx at h
  omega
 | f+1,n,k,h,h1,h2,j,h3,h4=>by
  unfold dx at h
  by_cases hr:bR s n=true
  · rw[if_pos hr] at h
    by_cases hj:j=n
    · rw[hj]
      exact hr
    · exact nO s f (n+1) k h (by omega) h2 j (by omega) h4
  · rw[if_neg hr] at h
    omega
theorem oL (s:bW) : ∀ f n k,0<n→dx s f n=k→k≠0→n≤k∧k<n+f∧bR s k=false
 | 0,n,k,h0,h,h2=>by
  unfold dx at h
  omega
 | f+1,n,k,h0,h,h2=>by
  unfold dx at h
  by_cases hr:bR s n=true
  · rw[if_pos hr] at h
    obtain⟨h3,h4,h5⟩:=oL s f (n+1) k (by omega) h h2
    exact⟨by omega,by omega,h5⟩
  · rw[if_neg hr] at h
    subst h
    exact⟨Nat.le_refl _,by omega,by simpa using hr⟩
theorem ze (s:bW) (i:Nat) (h1:1≤i) (h2:i≤14) (hc:dA s=0∨i≤dA s):bR s i=(decide (dA s=0)||decide (i<dA s)):=by
 by_cases h0:dA s=0
 · rw[h0,yO.1 h0 i h1 h2]
   rfl
 · have hc:=hc.resolve_left h0
   obtain⟨h3,h4,h5⟩:=oL s 14 1 (dA s) (by decide) rfl h0
   rw[decide_eq_false h0,Bool.false_or]
   by_cases h6:i<dA s
   · rw[decide_eq_true h6]
     exact nO s 14 1 (dA s) rfl h3 h0 i h1 h6
   · have:i=dA s:=by omega
     rw[decide_eq_false h6,this]
     exact h5
noncomputable def il:Code:=Tryz.f3.body.getD .skip
def Aa (br b3:Nat) (n:Int) (ok:Bool):List SV:=[.any,.v (.pointer (some ⟨br,0,none⟩)),.any,.v (.pointer (some ⟨b3,0,none⟩)),.v (.int .i64 n),.v (.bool ok)]++List.replicate 53 .any
def BH (br b3:Nat) (n:Int) (ok:Bool):List SV:=[.any,.v (.pointer (some ⟨br,0,none⟩)),.any,.v (.pointer (some ⟨b3,0,none⟩)),.v (.int .i64 n),.v (.bool ok),.v (.int .i64 n),.v (.bool ok)]++List.replicate 51 .any
def BP (br b3:Nat):List SV:=[.any,.v (.pointer (some ⟨br,0,none⟩)),.any,.v (.pointer (some ⟨b3,0,none⟩))]++List.replicate 55 .any
def BO (br:Nat):List SV:=[.any,.v (.pointer (some ⟨br,0,none⟩))]++List.replicate 57 .any
noncomputable def ll:Exit→KT:=lz aY Tryz.f3.results.toList (eg (fun v F=>v = .bool true))
theorem yQ (s t:bW) (hok':t.Ok) (hch:dA t=dA s) (hru : ∀ k,bR t k=bR s k) (N:Nat) (hN:dA s=N) (z:Bool) (hzd:decide (N=0)=z) (w0:World) (av:Nat→Prop) (T:List Value) (hT:dV T t) (br b3:Nat) (E:List Value) :
 az Tryz.prog w0 (fun _ _=>False) av (cY 6 il) (Aa br b3 (N:Int) z) [] [] ⟨fun w=>t.Rows w∧bJ w,[(br,Row.c E)] ++ [(b3,Row.c T)] ++ []⟩ ll:=by
 have hTl:T.length=376:=hT.len
 have hcr : ∀ i,1≤i→i≤14→N=0∨i≤N→bR t i=(decide (N=0)||decide (i<N)):=fun i h1 h2 h3=>by
  rw[hru i,← hN]
  exact ze s i h1 h2 (by rw[hN];exact h3)
 have hz:decide (N=0)=true↔N=0:=decide_eq_true_iff
 rw[hzd] at hz
 rw[hzd] at hcr
 refine az.aG ae ?_
 conv=>whnf
 repeat (refine aa.of ?_;conv=>whnf)
 refine az.loop ae (ι:=Nat) ([8]++List.range' 37 22) (fun x=>x≤14)
  (fun x=>[(8,.v (.int .i64 ((x+1:Nat):Int)))]) (fun _=>[]) (fun _=>⟨fun w=>t.Rows w∧bJ w,[(br,Row.c E)] ++ [(b3,Row.c T)] ++ []⟩)
  (fun x=>14 - x) 0 (Nat.zero_le _) ?_ rfl (ax.refl _) fun i hi=>?_
 · conv=>whnf
   repeat (first | exact au.nil | refine au.any ?_ | refine au.cons ?_)
 conv=>whnf
 repeat (refine aa.of ?_;conv=>whnf)
 refine bF.split (fun hlt=>?_) (fun hlt=>?_)
 · have hlt':i<14:=by
    simp[aC] at hlt
    omega
   have h1:=rm T t hT hok' (i+1) (by omega) (by omega)
   have hcr:=hcr (i+1) (by omega) (by omega)
   obtain⟨q,hq⟩ : ∃ q,bR t (i+1)=q:=⟨_,rfl⟩
   rw[hq] at h1 hcr
   obtain⟨a,ha⟩ : ∃ a,fI ((i+1:Nat):Int) (N:Int)=a:=⟨_,rfl⟩
   obtain⟨b,hb⟩ : ∃ a,eW ((i+1:Nat):Int) (N:Int)=a:=⟨_,rfl⟩
   have ha2:decide (i+1<N)=a:=by rw[← ha,ao,decide_eq_decide];omega
   have hb2:b=true↔i+1≤N:=by rw[← hb,aC,decide_eq_true_eq];omega
   rw[ha2] at hcr
   have hfin:(z=true∨b=true)→q=(z||a):=fun h=>hcr (h.elim (fun h=>.inl (hz.1 h)) fun h=>.inr (hb2.1 h))
   clear hcr hq hz hzd ha2 hb2
   conv=>whnf
   repeat (refine aa.of ?_;conv=>whnf)
   repeat' (first
    | (refine aa.of ?_;conv=>whnf)
    | (refine ar.aj (ak.aQ ae rfl rfl (ad:=⟨b3,0,none⟩) (k:=0) (L:=T) (m:=T) (aK.row (by simp)) rfl (by rw[List.drop_zero];exact List.take_of_length_le (by rw[hTl];exact Nat.le_refl _)) hTl ?_);conv=>whnf)
    | (refine aw.val h1 (fun w hw=>hw) (fun v D hv=>?_);subst hv;conv=>whnf)
    | (rw[ha];cases a<;>conv=>whnf)
    | (rw[hb];cases b<;>conv=>whnf)
    | (cases z<;>conv=>whnf)
    | (cases q<;>conv=>whnf))
   all_goals first
    | (
     refine⟨i+1,⟨hlt',by dsimp only;omega⟩,?_,?_,ax.refl _⟩
     · conv=>whnf
       refine⟨?_,rfl⟩
       repeat (first | exact au.nil | refine au.any ?_ | refine au.cons ?_ | refine au.eq (congrArg (fun z=>SV.v (Value.int .i64 z)) (by rw[wrap_i64 (by omega)];omega)) ?_)
     · conv=>whnf
       exact trivial)
    | (exfalso;simp at hfin;done)
 · have hie:i=14:=by
    simp[aC] at hlt
    omega
   subst hie
   conv=>whnf
   repeat (refine aa.of ?_;conv=>whnf)
   exact⟨_,ax.refl _,rfl⟩
theorem DT (s t:bW) (hok:s.Ok) (hd : ∀ i,i<32→(s.T i).data.n≤140737488355328) (l1:s.lk.co.left=0) (l2:s.lk.ci.left=0) (l3:s.se.co.left=0) (l4:s.se.ci.left=0) (hok':t.Ok) (hch:dA t=dA s) (hru : ∀ k,bR t k=bR s k) (N:Nat) (hN:dA s=N) (z:Bool) (hzd:decide (N=0)=z) (w0:World) (av:Nat→Prop) (T:List Value) (hT:dV T t) (br b3:Nat) (E:List Value) (hEl:E.length=380) (hRE:dJ s E) :
 az Tryz.prog w0 (fun _ _=>False) av (cY 5 il) (BH br b3 (N:Int) z) [] [] ⟨fun w=>(t.Rows w∧bJ w)∧s.Rows w,[(br,Row.c E)] ++ [(b3,Row.c T)] ++ []⟩ ll:=by
 refine az.cr ae 1 (ι:=Unit) (fun _=>True) (fun _=>Aa br b3 (N:Int) z) (fun _=>[]) (fun _=>⟨fun w=>(t.Rows w∧bJ w)∧s.Rows w,[(br,Row.c E)] ++ [(b3,Row.c T)] ++ []⟩) ?_ ?_
 · conv=>whnf
   repeat (refine aa.of ?_;conv=>whnf)
   have hne:fw (N:Int) (N:Int)=false:=by simp[aE]
   rw[hne]
   cases z
   all_goals
    conv=>whnf
    repeat (refine aa.of ?_;conv=>whnf)
    refine⟨(),trivial,[],⟨by simp,by simp,rfl⟩,?_,ax.of_le ⟨by simp[Fx.and],fun w hw=>hw⟩⟩
    repeat (first | exact au.nil | refine au.any ?_ | refine au.cons ?_)
 · intro _ _ bs' hbs'
   obtain rfl:bs' = []:=List.length_eq_zero_iff.1 hbs'
   rw[aS]
   exact az.bZ (F':=⟨fun w=>t.Rows w∧bJ w,[(br,Row.c E)] ++ [(b3,Row.c T)] ++ []⟩) (ax.of_le ⟨List.Sublist.refl _,fun w hw=>hw.1⟩) (yQ s t hok' hch hru N hN z hzd w0 av T hT br b3 E)
theorem DV (s t:bW) (hok:s.Ok) (hd : ∀ i,i<32→(s.T i).data.n≤140737488355328) (l1:s.lk.co.left=0) (l2:s.lk.ci.left=0) (l3:s.se.co.left=0) (l4:s.se.ci.left=0) (hok':t.Ok) (hch:dA t=dA s) (hru : ∀ k,bR t k=bR s k) (N:Nat) (hN:dA s=N) (z:Bool) (hzd:decide (N=0)=z) (w0:World) (av:Nat→Prop) (T:List Value) (hT:dV T t) (br b3:Nat) (E:List Value) (hEl:E.length=380) (hRE:dJ s E) :
 az Tryz.prog w0 (fun _ _=>False) av (cY 4 il) (Aa br b3 (N:Int) z) [] [] ⟨fun w=>(t.Rows w∧bJ w)∧s.Rows w,[(br,Row.c E)] ++ [(b3,Row.c T)] ++ []⟩ ll:=by
 refine az.cr ae 1 (ι:=Unit) (fun _=>True) (fun _=>BH br b3 (N:Int) z) (fun _=>[]) (fun _=>⟨fun w=>(t.Rows w∧bJ w)∧s.Rows w,[(br,Row.c E)] ++ [(b3,Row.c T)] ++ []⟩) ?_ ?_
 · conv=>whnf
   repeat (refine aa.of ?_;conv=>whnf)
   have hRc:=qE s E hRE hEl hok hd l1 l2 l3 l4
   rw[hN,hzd] at hRc
   refine ar.aj (ak.aQ ae rfl rfl (ad:=⟨br,0,none⟩) (k:=0) (L:=E) (m:=E) (aK.row (by simp[Fx.and])) rfl (by rw[List.drop_zero];exact List.take_of_length_le (by rw[hEl];exact Nat.le_refl _)) hEl ?_)
   conv=>whnf
   repeat (refine aa.of ?_;conv=>whnf)
   refine aw.val hRc (fun w hw=>hw.2) (fun v F hv=>?_)
   subst hv
   conv=>whnf
   repeat (refine aa.of ?_;conv=>whnf)
   refine⟨(),trivial,[],⟨by simp,by simp,rfl⟩,?_,ax.of_le ⟨by simp[Fx.and],fun w hw=>hw⟩⟩
   repeat (first | exact au.nil | refine au.any ?_ | refine au.cons ?_)
 · intro _ _ bs' hbs'
   obtain rfl:bs' = []:=List.length_eq_zero_iff.1 hbs'
   rw[aS]
   exact DT s t hok hd l1 l2 l3 l4 hok' hch hru N hN z hzd w0 av T hT br b3 E hEl hRE
theorem D7 (s t:bW) (hok:s.Ok) (hd : ∀ i,i<32→(s.T i).data.n≤140737488355328) (l1:s.lk.co.left=0) (l2:s.lk.ci.left=0) (l3:s.se.co.left=0) (l4:s.se.ci.left=0) (hok':t.Ok) (hch:dA t=dA s) (hru : ∀ k,bR t k=bR s k) (N:Nat) (hN:dA s=N) (z:Bool) (hzd:decide (N=0)=z) (w0:World) (av:Nat→Prop) (T:List Value) (hT:dV T t) (br b3:Nat) (E:List Value) (hEl:E.length=380) (hRE:dJ s E) :
 az Tryz.prog w0 (fun _ _=>False) av (cY 3 il) (BP br b3) [] [] ⟨fun w=>(t.Rows w∧bJ w)∧s.Rows w,[(br,Row.c E)] ++ [(b3,Row.c T)] ++ []⟩ ll:=by
 refine az.cr ae 1 (ι:=Unit) (fun _=>True) (fun _=>Aa br b3 (N:Int) z) (fun _=>[]) (fun _=>⟨fun w=>(t.Rows w∧bJ w)∧s.Rows w,[(br,Row.c E)] ++ [(b3,Row.c T)] ++ []⟩) ?_ ?_
 · conv=>whnf
   repeat (refine aa.of ?_;conv=>whnf)
   have hTl:=hT.len
   have hcs:=ka T t hT hok'
   rw[hch,hN,hzd] at hcs
   refine ar.aj (ak.aQ ae rfl rfl (ad:=⟨b3,0,none⟩) (k:=0) (L:=T) (m:=T) (aK.row (by simp[Fx.and])) rfl (by rw[List.drop_zero];exact List.take_of_length_le (by rw[hTl];exact Nat.le_refl _)) hTl ?_)
   conv=>whnf
   repeat (refine aa.of ?_;conv=>whnf)
   refine aw.val hcs (fun w hw=>hw.1) (fun v F hv=>?_)
   subst hv
   conv=>whnf
   repeat (refine aa.of ?_;conv=>whnf)
   refine⟨(),trivial,[],⟨by simp,by simp,rfl⟩,?_,ax.of_le ⟨by simp[Fx.and],fun w hw=>hw⟩⟩
   repeat (first | exact au.nil | refine au.any ?_ | refine au.cons ?_)
 · intro _ _ bs' hbs'
   obtain rfl:bs' = []:=List.length_eq_zero_iff.1 hbs'
   rw[aS]
   exact DV s t hok hd l1 l2 l3 l4 hok' hch hru N hN z hzd w0 av T hT br b3 E hEl hRE
theorem EB (s:bW) (hok:s.Ok) (hsm:s.Small) (hd : ∀ i,i<32→(s.T i).data.n≤140737488355328) (l1:s.lk.co.left=0) (l2:s.lk.ci.left=0) (l3:s.se.co.left=0) (l4:s.se.ci.left=0) (w0:World) (av:Nat→Prop) (br:Nat) (E:List Value) (hE:jN s=E) :
 az Tryz.prog w0 (fun _ _=>False) av (cY 2 il) (BO br) [] [] ⟨fun w=>(s.Rows w∧s.nw.At aU w)∧bJ w,[(br,Row.c E)]⟩ ll:=by
 have hTo:=Ak s hok hsm
 have hEl:(jN s).length=380:=oB s
 have hRE:=Dv s
 obtain⟨Z,hZ⟩ : ∃ Z,aT kS=Z:=⟨_,rfl⟩
 have hZl:Z.length=376:=by rw[← hZ];exact ba _
 rw[hE] at hEl hRE hTo
 refine az.cr ae 1 (ι:=Nat×bW×List Value) (fun x=>(x.2.1.Ok∧dA x.2.1=dA s∧∀ k,bR x.2.1 k=bR s k)∧dV x.2.2 x.2.1)
  (fun x=>BP br x.1) (fun _=>[])
  (fun x=>⟨fun w=>(x.2.1.Rows w∧bJ w)∧s.Rows w,[(br,Row.c E)] ++ [(x.1,Row.c x.2.2)] ++ []⟩) ?_ ?_
 · conv=>whnf
   repeat (refine aa.of ?_;conv=>whnf)
   refine ar.aj (ak.aQ ae rfl rfl (ad:=⟨br,0,none⟩) (k:=0) (L:=E) (m:=E) (aK.row (by simp[Fx.and])) rfl (by rw[List.drop_zero];exact List.take_of_length_le (by rw[hEl];exact Nat.le_refl _)) hEl ?_)
   conv=>whnf
   repeat (refine aa.of ?_;conv=>whnf)
   refine aw.pure hTo (fun w hw=>hw.1) (fun v F hv=>?_)
   obtain⟨pr,cp,gr,ti,sp,wi,fh,al,pe,nw,rfl,hok',rfl⟩:=hv
   have hch0:dA (s.zP pr cp gr ti sp wi fh al pe nw)=dA s:=Af ..
   have hru0 : ∀ k,bR (s.zP pr cp gr ti sp wi fh al pe nw) k=bR s k:=fun k=>rfl
   obtain⟨t,ht⟩ : ∃ t,s.zP pr cp gr ti sp wi fh al pe nw=t:=⟨_,rfl⟩
   rw[ht] at hok' hch0 hru0 ⊢
   have hTl:=ba t
   have hT1:=fT t
   have hTa:=sW t
   obtain⟨T,hTd⟩ : ∃ T,aT t=T:=⟨_,rfl⟩
   rw[hTd] at hTl hT1 hTa ⊢
   conv=>whnf
   repeat (refine aa.of ?_;conv=>whnf)
   refine ar.cT ae rfl (z:=Z) (by rw[← hZ];kernel_rfl) fun b3=>?_
   conv=>whnf
   repeat (refine aa.of ?_;conv=>whnf)
   refine aP.bZ (F':=⟨fun w=>(t.Rows w∧bJ w)∧s.Rows w,[(br,Row.c E)] ++ [(b3,Row.c Z)] ++ []⟩) (ax.of_le ⟨by simp[Fx.and],fun w hw=>⟨⟨hw.2.1,hw.1.2⟩,hw.1.1.1⟩⟩) ?_
   refine aP.aX ae rfl (b:=b3) (k:=0) (X:=T) rfl (by exact hTl) (by exact hT1) (by rw[hZl];exact Nat.le_refl _) (bP (by rw[hZl];exact hTl)) ?_
   conv=>whnf
   repeat (refine aa.of ?_;conv=>whnf)
   refine⟨(b3,t,T),⟨⟨hok',hch0,hru0⟩,hTa⟩,[],⟨by simp,by simp,rfl⟩,?_,ax.of_le ⟨by simp,fun w hw=>hw⟩⟩
   repeat (first | exact au.nil | refine au.any ?_ | refine au.cons ?_)
 · intro x hx bs' hbs'
   obtain⟨b3,t,T⟩:=x
   obtain⟨⟨h1,h2,h3⟩,h4⟩:=hx
   obtain rfl:bs' = []:=List.length_eq_zero_iff.1 hbs'
   rw[aS]
   exact D7 s t hok hd l1 l2 l3 l4 h1 h2 h3 (dA s) rfl _ rfl w0 av T h4 br b3 E hEl hRE
theorem mV (hA:af Tryz.prog 7 [] bJ (fun v F=>v = .bool true)) (s:bW) (ho:s.Wide) (hd : ∀ i,i<32→(s.T i).data.n≤140737488355328) (hfl:s.lk.fly.length≤4398046511104) :
 af Tryz.prog 3 [.agg ⟨jN s⟩] (fun w=>(s.Rows w∧s.nw.At aU w)∧bJ w) (fun v F=>v = .bool true):=by
 have hF:=xF s ho hd
 have hEl:(jN s).length=380:=oB s
 obtain⟨E,hE⟩ : ∃ E,jN s=E:=⟨_,rfl⟩
 rw[hE] at hEl hF
 rw[hE]
 refine af.iL ae Tryz.func3 (c:=il) rfl (by decide) (n:=Tryz.f3.ntmps - 1) rfl fun w0 av=>?_
 show az Tryz.prog w0 (fun _ _=>False) av il _ [] [] _ ll
 refine az.cr ae 2 (ι:=Nat) (fun _=>(iu s 32≤3000∧s.pe.l.length≤40)∧s.lk.co.left=0∧s.lk.ci.left=0∧s.se.co.left=0∧s.se.ci.left=0) (fun x=>BO x) (fun _=>[]) (fun x=>⟨fun w=>(s.Rows w∧s.nw.At aU w)∧bJ w,[(x,Row.c E)]⟩) ?_ ?_
 · conv=>whnf
   repeat (refine aa.of ?_;conv=>whnf)
   refine ar.bQ fun br=>?_
   conv=>whnf
   repeat (refine aa.of ?_;conv=>whnf)
   refine aw.val hA (fun w hw=>hw.2) (fun v D hv=>?_)
   subst hv
   conv=>whnf
   repeat (refine aa.of ?_;conv=>whnf)
   refine ar.aj (ak.aQ ae rfl rfl (ad:=⟨br,0,none⟩) (k:=0) (L:=E) (m:=E) (aK.row (by simp[Fx.and])) rfl (by rw[List.drop_zero];exact List.take_of_length_le (by rw[hEl];exact Nat.le_refl _)) hEl ?_)
   conv=>whnf
   repeat (refine aa.of ?_;conv=>whnf)
   refine aw.val hF (fun w hw=>hw.1.1) (fun v D hv=>?_)
   obtain⟨q,rfl,hq⟩:=hv
   cases q
   · conv=>whnf
     repeat (refine aa.of ?_;conv=>whnf)
     refine aw.val hA (fun w hw=>hw.2) (fun v D hv=>?_)
     subst hv
     conv=>whnf
     repeat (refine aa.of ?_;conv=>whnf)
     exact⟨_,ax.refl _,rfl⟩
   conv=>whnf
   repeat (refine aa.of ?_;conv=>whnf)
   refine⟨br,hq rfl,[],⟨by simp,by simp,rfl⟩,?_,ax.of_le ⟨by simp[Fx.and],fun w hw=>hw⟩⟩
   repeat (first | exact au.nil | refine au.any ?_ | refine au.cons ?_)
 · intro br hx bs' hbs'
   obtain⟨⟨h1,h2⟩,l1,l2,l3,l4⟩:=hx
   obtain rfl:bs' = []:=List.length_eq_zero_iff.1 hbs'
   exact EB s (ho.ok h1) (ho.small h1 h2 hfl) hd l1 l2 l3 l4 w0 av br E hE
end Go.Proofs.YtlnhdpjnlffaoaaGreatDoor
