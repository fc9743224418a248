/- The reference's lives: what the record says. -/
import Derived.Test.YtlnhdpjnlffaoaaGreatDoorQU
import Derived.Test.YtlnhdpjnlffaoaaGreatDoorQM
namespace Go.Proofs.YtlnhdpjnlffaoaaGreatDoor
open Go Go.Sx
set_option maxRecDepth 100000
set_option maxHeartbeats 4000000
set_option linter.unusedVariables false
set_option linter.unusedSimpArgs false
def Dg (R:Option (List Lf)) (v:Value):Prop:=match R with
 | some LL=>v = .tuple ⟨[.agg ⟨LL.flatMap cg⟩,.bool true]⟩
 | none=>∃ LL:List Lf,LL.length=32∧v = .tuple ⟨[.agg ⟨LL.flatMap cg⟩,.bool false]⟩
theorem p9 (l:List En) (h:Hd) (hh:h.Ok l.length) (hl:l.length≤140737488355328) :
 af Tryz.prog 101 [h.v l.length] (fun w=>ai w h.a (l.flatMap wo)) (fun v F=>Dg (kT l u9) v):=by
 obtain⟨R,hR⟩ : ∃ R,kT l u9=R:=⟨_,rfl⟩
 rw[hR]
 refine af.aG ae Tryz.func101 rfl (by decide) (n:=Tryz.f101.ntmps - 1) rfl rfl fun w0 av=>?_
 conv=>whnf
 repeat (refine aa.of ?_;conv=>whnf)
 refine ar.cT ae rfl (z:=(List.replicate 32 (⟨false,false,false,0⟩:Lf)).flatMap cg) (by kernel_rfl) fun b2=>?_
 conv=>whnf
 repeat (refine aa.of ?_;conv=>whnf)
 refine ar.cT ae rfl (z:=(List.replicate 32 (⟨false,false,false,0⟩:Lf)).flatMap cg) (by kernel_rfl) fun b4=>?_
 conv=>whnf
 repeat (refine aa.of ?_;conv=>whnf)
 refine ar.aj (ak.bj ae rfl rfl rfl 16 rfl (by decide) rfl ?_)
 conv=>whnf
 repeat (refine aa.of ?_;conv=>whnf)
 have h0:laid ((List.replicate 32 (⟨false,false,false,0⟩:Lf)).flatMap cg) 64 [.bool true]=u9.flatMap cg:=by kernel_rfl
 have hZ:((List.replicate 32 (⟨false,false,false,0⟩:Lf)).flatMap cg).length=128:=by kernel_rfl
 generalize (List.replicate 32 (⟨false,false,false,0⟩:Lf)).flatMap cg=Z at *
 refine aP.bZ (F':=⟨fun w=>ai w h.a (l.flatMap wo),[(b2,Row.c Z)] ++ [(b4,Row.c Z)] ++ []⟩) (ax.of_le ⟨by simp[Value.cells],fun w hw=>hw⟩) ?_
 refine aP.aX ae rfl (b:=b4) (k:=64) (X:=u9.flatMap cg) rfl rfl (List.all_eq_true.1 (by rfl)) (by rw[hZ];decide) h0 ?_
 conv=>whnf
 repeat (refine aa.of ?_;conv=>whnf)
 refine az.loop ae (ι:=Nat×List Lf) ([5]++List.range' 6 99) (fun x=>x.1≤l.length∧x.2.length=32∧kT (l.drop x.1) x.2=R)
  (fun x=>[(5,.v (.int .i64 (x.1:Int)))]) (fun _=>[]) (fun x=>⟨fun w=>ai w h.a (l.flatMap wo),[(b2,Row.c Z)] ++ [(b4,Row.c (x.2.flatMap cg))] ++ []⟩)
  (fun x=>l.length - x.1) (0,u9) ⟨Nat.zero_le _,rfl,hR⟩ ?_ rfl (ax.refl _) fun x hx=>?_
 · conv=>whnf
   repeat (first | exact au.nil | refine au.any ?_ | refine au.cons ?_)
 clear h0 hR
 obtain⟨i,LL⟩:=x
 obtain⟨hi,hLL,hinv⟩:=hx
 dsimp only at hi hLL hinv ⊢
 have hLe:(LL.flatMap cg).length=128:=by rw[gX (z:=4) (fun _=>rfl),hLL]
 have hL1 : ∀ v∈LL.flatMap cg,a7 v=true:=fun v hv=>by
  obtain⟨y,_,hy⟩:=List.mem_flatMap.1 hv
  simp[cg] at hy
  rcases hy with rfl | rfl | rfl | rfl<;>rfl
 conv=>whnf
 repeat (refine aa.of ?_;conv=>whnf)
 refine bF.split (fun hlt=>?_) (fun hlt=>?_)
 · have hlt':i<l.length:=by
    simp only[ao,decide_eq_true_eq] at hlt
    omega
   rw[List.drop_eq_getElem_cons hlt'] at hinv
   unfold kT at hinv
   obtain⟨⟨kind,task,call,a0,a1,a2,res,data⟩,hx⟩ : ∃ x,l[i]=x:=⟨_,rfl⟩
   rw[hx] at hinv
   have hus:=dX task
   have hgx:((l.flatMap wo).drop (i*8)).take 8 = [.int .i64 kind,.int .i64 task,.int .i64 call,.int .i64 a0,.int .i64 a1,.int .i64 a2,.int .i64 res,du data]:=by
    have:=a8 (cf:=wo) (z:=8) (fun _=>rfl) hlt'
    rw[hx] at this
    exact this
   conv=>whnf
   repeat (refine aa.of ?_;conv=>whnf)
   refine ar.aj (ak.index ae (t:=70) rfl rfl rfl (by omega) (by omega) hh.nil fun ad had=>?_)
   conv=>whnf
   repeat (refine aa.of ?_;conv=>whnf)
   refine ar.aj (ak.aQ ae rfl rfl (ad:=ad) (k:=i*8) (L:=l.flatMap wo) (m:=[.int .i64 kind,.int .i64 task,.int .i64 call,.int .i64 a0,.int .i64 a1,.int .i64 a2,.int .i64 res,du data]) (.fact fun w hw=>had ▸ hw) (by simp) hgx rfl ?_)
   clear hgx
   conv=>whnf
   repeat (refine aa.of ?_;conv=>whnf)
   intro b6
   conv=>whnf
   repeat (refine aa.of ?_;conv=>whnf)
   obtain⟨k1,hk1⟩ : ∃ b,aR kind 1=b:=⟨_,rfl⟩
   obtain⟨k2,hk2⟩ : ∃ b,aR kind 2=b:=⟨_,rfl⟩
   obtain⟨k3,hk3⟩ : ∃ b,aR kind 3=b:=⟨_,rfl⟩
   obtain⟨k4,hk4⟩ : ∃ b,aR kind 4=b:=⟨_,rfl⟩
   obtain⟨k5,hk5⟩ : ∃ b,aR kind 5=b:=⟨_,rfl⟩
   obtain⟨k6,hk6⟩ : ∃ b,aR kind 6=b:=⟨_,rfl⟩
   obtain⟨n6,hn6⟩ : ∃ b,fw kind 6=b:=⟨_,rfl⟩
   have g1:=hk1
   have g2:=hk2
   have g3:=hk3
   have g4:=hk4
   have g5:=hk5
   have g6:=hk6
   have g7:=hn6
   by_cases hk:e_ kind=true
   · have hst:gi LL ⟨kind,task,call,a0,a1,a2,res,data⟩=if 16≤task∧task<32 then (match vC LL[task.toNat]! ⟨kind,task,call,a0,a1,a2,res,data⟩ with | some l=>some (LL.set task.toNat l) | none=>none) else none:=by
      unfold gi
      dsimp only
      rw[if_pos hk]
      by_cases ht:16≤task∧task<32
      · rw[if_pos ht,if_pos ht]
        cases vC LL[task.toNat]! ⟨kind,task,call,a0,a1,a2,res,data⟩<;>rfl
      · rw[if_neg ht,if_neg ht]
     rw[hst] at hinv
     clear hst
     rw[iP] at hk
     by_cases ht:16≤task∧task<32
     · rw[if_pos ht] at hinv
       rw[decide_eq_true ht] at hus
       obtain⟨n,hn⟩ : ∃ n:Nat,task.toNat=n:=⟨_,rfl⟩
       have hn32:n<32:=by omega
       have htn:task=(n:Int):=by omega
       rw[hn] at hinv
       obtain⟨⟨al,ca,cl,cc⟩,htl⟩ : ∃ t,LL[n]! = t:=⟨_,rfl⟩
       rw[htl] at hinv
       have hget:((LL.flatMap cg).drop (n*4)).take 4 = [.bool al,.bool ca,.bool cl,.int .i64 cc]:=by
        have:=a8 (cf:=cg) (z:=4) (fun _=>rfl) (l:=LL) (i:=n) (by omega)
        rw[← bn (by omega),htl] at this
        exact this
       have hset:LL.set n ⟨al,ca,cl,cc⟩=LL:=by
        rw[← htl,bn (by omega)]
        simp
       have hB : ∀ y:Lf,laid (LL.flatMap cg) (n*4) (cg y)=(LL.set n y).flatMap cg:=fun y=>(wb (cf:=cg) (z:=4) (fun _=>rfl) y (by omega)).symm
       have hC:=zi hLL hn32 ⟨al,ca,cl,cc⟩ 2 [.bool true] ⟨al,ca,true,cc⟩ (by decide) rfl
       rw[hset] at hC
       obtain⟨cx,hcx⟩ : ∃ b,fw cc call=b:=⟨_,rfl⟩
       obtain⟨r,hr⟩ : ∃ r,vC ⟨al,ca,cl,cc⟩ ⟨kind,task,call,a0,a1,a2,res,data⟩=r:=⟨_,rfl⟩
       rw[hr] at hinv
       unfold vC at hr
       dsimp only at hr
       rw[hk1,hk2,hk3,hk4,hk5,hn6,hcx] at hr
       clear htl hx hn ht
       rcases hk with hk | hk | hk | hk | hk | hk
       all_goals
        rw[hk] at g1 g2 g3 g4 g5 g6 g7
        simp[aA,aE] at g1 g2 g3 g4 g5 g6 g7
        subst g1 g2 g3 g4 g5 g6 g7
        clear hk
       · repeat' (first
          | (refine aa.of ?_;conv=>whnf)
          | (refine aw.val hus (fun w hw=>trivial) (fun v D hv=>?_);subst hv;conv=>whnf)
          | (refine ar.aj (ak.bj ae rfl rfl rfl n htn (by omega) rfl ?_);conv=>whnf)
          | (refine ar.aj (ak.aQ ae rfl rfl (ad:=⟨b4,0,none⟩) (k:=n*4) (L:=LL.flatMap cg) (m:=[.bool al,.bool ca,.bool cl,.int .i64 cc]) (aK.row (by simp)) rfl hget rfl ?_);conv=>whnf)
          | (intro b7;conv=>whnf)
          | (refine ar.aj (ak.aQ ae rfl rfl (ad:=⟨b4,0,none⟩) (k:=0) (L:=LL.flatMap cg) (m:=LL.flatMap cg) (aK.row (by simp)) rfl (by rw[List.drop_zero];exact List.take_of_length_le (by rw[hLe];exact Nat.le_refl _)) hLe ?_);conv=>whnf)
          | (refine aP.aX ae rfl (r1:=[]) (r2:=[(b4,Row.c (LL.flatMap cg))]) (b:=b2) (k:=0) (C:=Z) (v:=.agg ⟨LL.flatMap cg⟩) (X:=LL.flatMap cg) rfl (by exact hLe) (by exact hL1) (by rw[hZ];exact Nat.le_refl _) (bP (by rw[hZ];exact hLe)) ?_;conv=>whnf)
          | (refine aP.aX ae rfl (r1:=[(b2,Row.c Z)]) (r2:=[]) (b:=b4) (k:=n*4) (C:=LL.flatMap cg) (v:=.agg ⟨[.bool true,.bool true,.bool false,.int .i64 call]⟩) (X:=_) (by simp[Addr.bE]) rfl (List.all_eq_true.1 (by rfl)) (by rw[hLe];show n*4+4≤128;omega) (hB ⟨true,true,false,call⟩) ?_;conv=>whnf)
          | (rw[hk3];conv=>whnf)
          | (rw[hk6];conv=>whnf)
          | (rw[hk1];conv=>whnf)
          | (rw[hk2];conv=>whnf)
          | (rw[hn6];conv=>whnf)
          | (have h9:r=none:=hr.symm.trans rfl;subst h9;have hRn:R=none:=hinv.symm;subst hRn;exact⟨b2,LL.flatMap cg,⟨rfl,rfl,List.Mem.head _,hLe⟩,⟨fun _=>True,[]⟩,ax.of_le ⟨List.nil_sublist _,fun _ _=>trivial⟩,LL,hLL,rfl⟩)
          | (have h9:r=some _:=hr.symm.trans rfl;subst h9;refine⟨(i+1,LL.set n _),⟨⟨hlt',by rw[List.length_set];exact hLL,hinv⟩,by dsimp only;omega⟩,?fl,?bl,ax.refl _⟩;(case fl=>(conv=>whnf);refine⟨?_,rfl⟩;repeat (first | exact au.nil | refine au.any ?_ | refine au.cons ?_ | refine au.eq (by rw[wrap_i64 (by omega)];rfl) ?_));(case bl=>(conv=>whnf);exact trivial))
          | (cases al<;>conv=>whnf)
          | (cases ca<;>conv=>whnf)
          | (cases cl<;>conv=>whnf))
       · repeat' (first
          | (refine aa.of ?_;conv=>whnf)
          | (refine aw.val hus (fun w hw=>trivial) (fun v D hv=>?_);subst hv;conv=>whnf)
          | (refine ar.aj (ak.bj ae rfl rfl rfl n htn (by omega) rfl ?_);conv=>whnf)
          | (refine ar.aj (ak.aQ ae rfl rfl (ad:=⟨b4,0,none⟩) (k:=n*4) (L:=LL.flatMap cg) (m:=[.bool al,.bool ca,.bool cl,.int .i64 cc]) (aK.row (by simp)) rfl hget rfl ?_);conv=>whnf)
          | (intro b7;conv=>whnf)
          | (refine ar.aj (ak.aQ ae rfl rfl (ad:=⟨b4,0,none⟩) (k:=0) (L:=LL.flatMap cg) (m:=LL.flatMap cg) (aK.row (by simp)) rfl (by rw[List.drop_zero];exact List.take_of_length_le (by rw[hLe];exact Nat.le_refl _)) hLe ?_);conv=>whnf)
          | (refine aP.aX ae rfl (r1:=[]) (r2:=[(b4,Row.c (LL.flatMap cg))]) (b:=b2) (k:=0) (C:=Z) (v:=.agg ⟨LL.flatMap cg⟩) (X:=LL.flatMap cg) rfl (by exact hLe) (by exact hL1) (by rw[hZ];exact Nat.le_refl _) (bP (by rw[hZ];exact hLe)) ?_;conv=>whnf)
          | (refine aP.aX ae rfl (r1:=[(b2,Row.c Z)]) (r2:=[]) (b:=b4) (k:=n*4) (C:=LL.flatMap cg) (v:=.agg ⟨[.bool true,.bool false,.bool false,.int .i64 0]⟩) (X:=_) (by simp[Addr.bE]) rfl (List.all_eq_true.1 (by rfl)) (by rw[hLe];show n*4+4≤128;omega) (hB ⟨true,false,false,0⟩) ?_;conv=>whnf)
          | (rw[hk3];conv=>whnf)
          | (rw[hk6];conv=>whnf)
          | (rw[hk1];conv=>whnf)
          | (rw[hk2];conv=>whnf)
          | (rw[hk4];conv=>whnf)
          | (rw[hk5];conv=>whnf)
          | (rw[hn6];conv=>whnf)
          | (rw[hcx];cases cx<;>conv=>whnf)
          | (have h9:r=none:=hr.symm.trans rfl;subst h9;have hRn:R=none:=hinv.symm;subst hRn;exact⟨b2,LL.flatMap cg,⟨rfl,rfl,List.Mem.head _,hLe⟩,⟨fun _=>True,[]⟩,ax.of_le ⟨List.nil_sublist _,fun _ _=>trivial⟩,LL,hLL,rfl⟩)
          | (have h9:r=some _:=hr.symm.trans rfl;subst h9;refine⟨(i+1,LL.set n _),⟨⟨hlt',by rw[List.length_set];exact hLL,hinv⟩,by dsimp only;omega⟩,?fl,?bl,ax.refl _⟩;(case fl=>(conv=>whnf);refine⟨?_,rfl⟩;repeat (first | exact au.nil | refine au.any ?_ | refine au.cons ?_ | refine au.eq (by rw[wrap_i64 (by omega)];rfl) ?_));(case bl=>(conv=>whnf);exact trivial))
          | (cases al<;>conv=>whnf)
          | (cases ca<;>conv=>whnf)
          | (cases cl<;>conv=>whnf))
       · repeat' (first
          | (refine aa.of ?_;conv=>whnf)
          | (refine aw.val hus (fun w hw=>trivial) (fun v D hv=>?_);subst hv;conv=>whnf)
          | (refine ar.aj (ak.bj ae rfl rfl rfl n htn (by omega) rfl ?_);conv=>whnf)
          | (refine ar.aj (ak.aQ ae rfl rfl (ad:=⟨b4,0,none⟩) (k:=n*4) (L:=LL.flatMap cg) (m:=[.bool al,.bool ca,.bool cl,.int .i64 cc]) (aK.row (by simp)) rfl hget rfl ?_);conv=>whnf)
          | (intro b7;conv=>whnf)
          | (refine ar.aj (ak.aQ ae rfl rfl (ad:=⟨b4,0,none⟩) (k:=0) (L:=LL.flatMap cg) (m:=LL.flatMap cg) (aK.row (by simp)) rfl (by rw[List.drop_zero];exact List.take_of_length_le (by rw[hLe];exact Nat.le_refl _)) hLe ?_);conv=>whnf)
          | (refine aP.aX ae rfl (r1:=[]) (r2:=[(b4,Row.c (LL.flatMap cg))]) (b:=b2) (k:=0) (C:=Z) (v:=.agg ⟨LL.flatMap cg⟩) (X:=LL.flatMap cg) rfl (by exact hLe) (by exact hL1) (by rw[hZ];exact Nat.le_refl _) (bP (by rw[hZ];exact hLe)) ?_;conv=>whnf)
          | (refine aP.aX ae rfl (r1:=[(b2,Row.c Z)]) (r2:=[]) (b:=b4) (k:=n*4) (C:=LL.flatMap cg) (v:=.agg ⟨[.bool true,.bool false,.bool false,.int .i64 0]⟩) (X:=_) (by simp[Addr.bE]) rfl (List.all_eq_true.1 (by rfl)) (by rw[hLe];show n*4+4≤128;omega) (hB ⟨true,false,false,0⟩) ?_;conv=>whnf)
          | (rw[hk3];conv=>whnf)
          | (rw[hk1];conv=>whnf)
          | (rw[hk2];conv=>whnf)
          | (rw[hk4];conv=>whnf)
          | (rw[hk5];conv=>whnf)
          | (rw[hn6];conv=>whnf)
          | (have h9:r=none:=hr.symm.trans rfl;subst h9;have hRn:R=none:=hinv.symm;subst hRn;exact⟨b2,LL.flatMap cg,⟨rfl,rfl,List.Mem.head _,hLe⟩,⟨fun _=>True,[]⟩,ax.of_le ⟨List.nil_sublist _,fun _ _=>trivial⟩,LL,hLL,rfl⟩)
          | (have h9:r=some _:=hr.symm.trans rfl;subst h9;refine⟨(i+1,LL.set n _),⟨⟨hlt',by rw[List.length_set];exact hLL,hinv⟩,by dsimp only;omega⟩,?fl,?bl,ax.refl _⟩;(case fl=>(conv=>whnf);refine⟨?_,rfl⟩;repeat (first | exact au.nil | refine au.any ?_ | refine au.cons ?_ | refine au.eq (by rw[wrap_i64 (by omega)];rfl) ?_));(case bl=>(conv=>whnf);exact trivial))
          | (cases al<;>conv=>whnf)
          | (cases ca<;>conv=>whnf)
          | (cases cl<;>conv=>whnf))
       · repeat' (first
          | (refine aa.of ?_;conv=>whnf)
          | (refine aw.val hus (fun w hw=>trivial) (fun v D hv=>?_);subst hv;conv=>whnf)
          | (refine ar.aj (ak.bj ae rfl rfl rfl n htn (by omega) rfl ?_);conv=>whnf)
          | (refine ar.aj (ak.aQ ae rfl rfl (ad:=⟨b4,0,none⟩) (k:=n*4) (L:=LL.flatMap cg) (m:=[.bool al,.bool ca,.bool cl,.int .i64 cc]) (aK.row (by simp)) rfl hget rfl ?_);conv=>whnf)
          | (intro b7;conv=>whnf)
          | (refine ar.aj (ak.aQ ae rfl rfl (ad:=⟨b4,0,none⟩) (k:=0) (L:=LL.flatMap cg) (m:=LL.flatMap cg) (aK.row (by simp)) rfl (by rw[List.drop_zero];exact List.take_of_length_le (by rw[hLe];exact Nat.le_refl _)) hLe ?_);conv=>whnf)
          | (refine aP.aX ae rfl (r1:=[]) (r2:=[(b4,Row.c (LL.flatMap cg))]) (b:=b2) (k:=0) (C:=Z) (v:=.agg ⟨LL.flatMap cg⟩) (X:=LL.flatMap cg) rfl (by exact hLe) (by exact hL1) (by rw[hZ];exact Nat.le_refl _) (bP (by rw[hZ];exact hLe)) ?_;conv=>whnf)
          | (refine aP.aX ae rfl (r1:=[(b2,Row.c Z)]) (r2:=[]) (b:=b4) (k:=n*4+2) (C:=LL.flatMap cg) (v:=.bool true) (X:=_) (by simp[Addr.bE]) rfl (List.all_eq_true.1 (by rfl)) (by rw[hLe];show n*4+2+1≤128;omega) hC ?_;conv=>whnf)
          | (rw[hk3];conv=>whnf)
          | (rw[hk6];conv=>whnf)
          | (rw[hk1];conv=>whnf)
          | (rw[hk2];conv=>whnf)
          | (rw[hk4];conv=>whnf)
          | (rw[hn6];conv=>whnf)
          | (have h9:r=none:=hr.symm.trans rfl;subst h9;have hRn:R=none:=hinv.symm;subst hRn;exact⟨b2,LL.flatMap cg,⟨rfl,rfl,List.Mem.head _,hLe⟩,⟨fun _=>True,[]⟩,ax.of_le ⟨List.nil_sublist _,fun _ _=>trivial⟩,LL,hLL,rfl⟩)
          | (have h9:r=some _:=hr.symm.trans rfl;subst h9;refine⟨(i+1,LL.set n _),⟨⟨hlt',by rw[List.length_set];exact hLL,hinv⟩,by dsimp only;omega⟩,?fl,?bl,ax.refl _⟩;(case fl=>(conv=>whnf);refine⟨?_,rfl⟩;repeat (first | exact au.nil | refine au.any ?_ | refine au.cons ?_ | refine au.eq (by rw[wrap_i64 (by omega)];rfl) ?_));(case bl=>(conv=>whnf);exact trivial))
          | (cases al<;>conv=>whnf)
          | (cases ca<;>conv=>whnf)
          | (cases cl<;>conv=>whnf))
       · repeat' (first
          | (refine aa.of ?_;conv=>whnf)
          | (refine aw.val hus (fun w hw=>trivial) (fun v D hv=>?_);subst hv;conv=>whnf)
          | (refine ar.aj (ak.bj ae rfl rfl rfl n htn (by omega) rfl ?_);conv=>whnf)
          | (refine ar.aj (ak.aQ ae rfl rfl (ad:=⟨b4,0,none⟩) (k:=n*4) (L:=LL.flatMap cg) (m:=[.bool al,.bool ca,.bool cl,.int .i64 cc]) (aK.row (by simp)) rfl hget rfl ?_);conv=>whnf)
          | (intro b7;conv=>whnf)
          | (refine ar.aj (ak.aQ ae rfl rfl (ad:=⟨b4,0,none⟩) (k:=0) (L:=LL.flatMap cg) (m:=LL.flatMap cg) (aK.row (by simp)) rfl (by rw[List.drop_zero];exact List.take_of_length_le (by rw[hLe];exact Nat.le_refl _)) hLe ?_);conv=>whnf)
          | (refine aP.aX ae rfl (r1:=[]) (r2:=[(b4,Row.c (LL.flatMap cg))]) (b:=b2) (k:=0) (C:=Z) (v:=.agg ⟨LL.flatMap cg⟩) (X:=LL.flatMap cg) rfl (by exact hLe) (by exact hL1) (by rw[hZ];exact Nat.le_refl _) (bP (by rw[hZ];exact hLe)) ?_;conv=>whnf)
          | (rw[hk3];conv=>whnf)
          | (rw[hk6];conv=>whnf)
          | (rw[hk1];conv=>whnf)
          | (rw[hk2];conv=>whnf)
          | (rw[hk4];conv=>whnf)
          | (rw[hk5];conv=>whnf)
          | (rw[hn6];conv=>whnf)
          | (have h9:r=none:=hr.symm.trans rfl;subst h9;have hRn:R=none:=hinv.symm;subst hRn;exact⟨b2,LL.flatMap cg,⟨rfl,rfl,List.Mem.head _,hLe⟩,⟨fun _=>True,[]⟩,ax.of_le ⟨List.nil_sublist _,fun _ _=>trivial⟩,LL,hLL,rfl⟩)
          | (have h9:r=some _:=hr.symm.trans rfl;subst h9;have hi2:kT (l.drop (i+1)) (LL.set n _)=R:=hinv;rw[hset] at hi2;refine⟨(i+1,LL),⟨⟨hlt',hLL,hi2⟩,by dsimp only;omega⟩,?fl,?bl,ax.refl _⟩;(case fl=>(conv=>whnf);refine⟨?_,rfl⟩;repeat (first | exact au.nil | refine au.any ?_ | refine au.cons ?_ | refine au.eq (by rw[wrap_i64 (by omega)];rfl) ?_));(case bl=>(conv=>whnf);exact trivial))
          | (cases al<;>conv=>whnf)
          | (cases ca<;>conv=>whnf)
          | (cases cl<;>conv=>whnf))
       · repeat' (first
          | (refine aa.of ?_;conv=>whnf)
          | (refine aw.val hus (fun w hw=>trivial) (fun v D hv=>?_);subst hv;conv=>whnf)
          | (refine ar.aj (ak.bj ae rfl rfl rfl n htn (by omega) rfl ?_);conv=>whnf)
          | (refine ar.aj (ak.aQ ae rfl rfl (ad:=⟨b4,0,none⟩) (k:=n*4) (L:=LL.flatMap cg) (m:=[.bool al,.bool ca,.bool cl,.int .i64 cc]) (aK.row (by simp)) rfl hget rfl ?_);conv=>whnf)
          | (intro b7;conv=>whnf)
          | (refine ar.aj (ak.aQ ae rfl rfl (ad:=⟨b4,0,none⟩) (k:=0) (L:=LL.flatMap cg) (m:=LL.flatMap cg) (aK.row (by simp)) rfl (by rw[List.drop_zero];exact List.take_of_length_le (by rw[hLe];exact Nat.le_refl _)) hLe ?_);conv=>whnf)
          | (refine aP.aX ae rfl (r1:=[]) (r2:=[(b4,Row.c (LL.flatMap cg))]) (b:=b2) (k:=0) (C:=Z) (v:=.agg ⟨LL.flatMap cg⟩) (X:=LL.flatMap cg) rfl (by exact hLe) (by exact hL1) (by rw[hZ];exact Nat.le_refl _) (bP (by rw[hZ];exact hLe)) ?_;conv=>whnf)
          | (refine aP.aX ae rfl (r1:=[(b2,Row.c Z)]) (r2:=[]) (b:=b4) (k:=n*4) (C:=LL.flatMap cg) (v:=.agg ⟨[.bool false,.bool false,.bool false,.int .i64 0]⟩) (X:=_) (by simp[Addr.bE]) rfl (List.all_eq_true.1 (by rfl)) (by rw[hLe];show n*4+4≤128;omega) (hB ⟨false,false,false,0⟩) ?_;conv=>whnf)
          | (rw[hk3];conv=>whnf)
          | (rw[hk6];conv=>whnf)
          | (rw[hk1];conv=>whnf)
          | (rw[hk2];conv=>whnf)
          | (rw[hk4];conv=>whnf)
          | (rw[hk5];conv=>whnf)
          | (rw[hn6];conv=>whnf)
          | (have h9:r=none:=hr.symm.trans rfl;subst h9;have hRn:R=none:=hinv.symm;subst hRn;exact⟨b2,LL.flatMap cg,⟨rfl,rfl,List.Mem.head _,hLe⟩,⟨fun _=>True,[]⟩,ax.of_le ⟨List.nil_sublist _,fun _ _=>trivial⟩,LL,hLL,rfl⟩)
          | (have h9:r=some _:=hr.symm.trans rfl;subst h9;refine⟨(i+1,LL.set n _),⟨⟨hlt',by rw[List.length_set];exact hLL,hinv⟩,by dsimp only;omega⟩,?fl,?bl,ax.refl _⟩;(case fl=>(conv=>whnf);refine⟨?_,rfl⟩;repeat (first | exact au.nil | refine au.any ?_ | refine au.cons ?_ | refine au.eq (by rw[wrap_i64 (by omega)];rfl) ?_));(case bl=>(conv=>whnf);exact trivial))
          | (cases al<;>conv=>whnf)
          | (cases ca<;>conv=>whnf)
          | (cases cl<;>conv=>whnf))
     · rw[if_neg ht] at hinv
       rw[decide_eq_false ht] at hus
       have hRn:R=none:=hinv.symm
       subst hRn
       rcases hk with hk | hk | hk | hk | hk | hk
       all_goals
        rw[hk] at g1 g2 g3 g4 g5 g6 g7
        simp[aA,aE] at g1 g2 g3 g4 g5 g6 g7
        subst g1 g2 g3 g4 g5 g6 g7
        clear hk
        repeat' (first
         | (refine aw.val hus (fun w hw=>trivial) (fun v D hv=>?_);subst hv;conv=>whnf)
         | (refine ar.aj (ak.aQ ae rfl rfl (ad:=⟨b4,0,none⟩) (k:=0) (L:=LL.flatMap cg) (m:=LL.flatMap cg) (aK.row (by simp)) rfl (by rw[List.drop_zero];exact List.take_of_length_le (by rw[hLe];exact Nat.le_refl _)) hLe ?_);conv=>whnf)
         | (refine aP.aX ae rfl (r1:=[]) (r2:=[(b4,Row.c (LL.flatMap cg))]) (b:=b2) (k:=0) (C:=Z) (v:=.agg ⟨LL.flatMap cg⟩) (X:=LL.flatMap cg) rfl (by exact hLe) (by exact hL1) (by rw[hZ];exact Nat.le_refl _) (bP (by rw[hZ];exact hLe)) ?_;conv=>whnf)
         | (rw[hk3];conv=>whnf)
         | (rw[hk6];conv=>whnf)
         | (rw[hk1];conv=>whnf)
         | (rw[hk2];conv=>whnf)
         | (rw[hk4];conv=>whnf)
         | (rw[hk5];conv=>whnf))
        exact⟨b2,LL.flatMap cg,⟨rfl,rfl,List.Mem.head _,hLe⟩,⟨fun _=>True,[]⟩,ax.of_le ⟨List.nil_sublist _,fun _ _=>trivial⟩,LL,hLL,rfl⟩
   · have hst:gi LL ⟨kind,task,call,a0,a1,a2,res,data⟩=some LL:=by
      unfold gi
      dsimp only
      rw[if_neg hk]
     rw[hst] at hinv
     rw[iP] at hk
     have e : ∀ k:Int,1≤k→k≤6→aR kind k=false:=fun k h1 h2=>by
      rw[aA,beq_eq_false_iff_ne]
      intro h
      exact hk (by omega)
     rw[e 1 (by decide) (by decide)] at g1
     rw[e 2 (by decide) (by decide)] at g2
     rw[e 3 (by decide) (by decide)] at g3
     rw[e 4 (by decide) (by decide)] at g4
     rw[e 5 (by decide) (by decide)] at g5
     rw[e 6 (by decide) (by decide)] at g6
     subst g1 g2 g3 g4 g5 g6
     clear hst hk
     repeat' (first
      | (rw[hk3];conv=>whnf)
      | (rw[hk6];conv=>whnf)
      | (rw[hk1];conv=>whnf)
      | (rw[hk2];conv=>whnf)
      | (rw[hk4];conv=>whnf)
      | (rw[hk5];conv=>whnf))
     refine⟨(i+1,LL),⟨⟨hlt',hLL,hinv⟩,by dsimp only;omega⟩,?_,?_,ax.refl _⟩
     · conv=>whnf
       refine⟨?_,rfl⟩
       repeat (first | exact au.nil | refine au.any ?_ | refine au.cons ?_ | refine au.eq (by rw[wrap_i64 (by omega)];rfl) ?_)
     · conv=>whnf
       exact trivial
 · have hie:i=l.length:=by
    simp only[ao,decide_eq_false_iff_not] at hlt
    omega
   rw[hie,List.drop_length] at hinv
   have hR:R=some LL:=hinv.symm
   rw[hR]
   conv=>whnf
   repeat (refine aa.of ?_;conv=>whnf)
   refine ar.aj (ak.aQ ae rfl rfl (ad:=⟨b4,0,none⟩) (k:=0) (L:=LL.flatMap cg) (m:=LL.flatMap cg) (aK.row (by simp)) rfl (by rw[List.drop_zero];exact List.take_of_length_le (by rw[hLe];exact Nat.le_refl _)) hLe ?_)
   conv=>whnf
   repeat (refine aa.of ?_;conv=>whnf)
   refine aP.aX ae rfl (r1:=[]) (r2:=[(b4,Row.c (LL.flatMap cg))]) (b:=b2) (k:=0) (C:=Z) (v:=.agg ⟨LL.flatMap cg⟩) (X:=LL.flatMap cg) rfl (by exact hLe) (by exact hL1) (by rw[hZ];exact Nat.le_refl _) (bP (by rw[hZ];exact hLe)) ?_
   conv=>whnf
   repeat (refine aa.of ?_;conv=>whnf)
   exact⟨b2,LL.flatMap cg,⟨rfl,rfl,List.Mem.head _,hLe⟩,⟨fun _=>True,[]⟩,ax.of_le ⟨List.nil_sublist _,fun _ _=>trivial⟩,rfl⟩
end Go.Proofs.YtlnhdpjnlffaoaaGreatDoor
