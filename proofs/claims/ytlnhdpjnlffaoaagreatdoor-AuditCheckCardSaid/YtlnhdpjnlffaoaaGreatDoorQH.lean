/- Parts of the proof: AaV, AaW, AaX, AaY, AaZ, AbA, AbB, AbC, AbD. -/
import Derived.Test.YtlnhdpjnlffaoaaGreatDoorQF
import Derived.Test.YtlnhdpjnlffaoaaGreatDoorQG
namespace Go.Proofs.YtlnhdpjnlffaoaaGreatDoor
open Go Go.Sx
set_option maxRecDepth 100000
set_option maxHeartbeats 4000000
set_option linter.unusedVariables false
set_option linter.unusedSimpArgs false
def dj (l:List Cp) (o:Int) (r:Rt):Bool:=l.any fun x=>aR x.owner o&&eE x.r r
theorem k_ (nx:Int) (l:List Cp) (h:Hd) (hh:h.Ok l.length) (hl:l.length≤140737488355328) (o:Int) (r:Rt) :
 af Tryz.prog 123 [.agg ⟨[.int .i64 nx,h.v l.length]⟩,.int .i64 o,.agg ⟨s5 r⟩] (fun w=>ai w h.a (l.flatMap bx)) (fun v F=>v = .bool (dj l o r)):=by
 have hg:=fun(b1 b2:Nat)=>wJ bx (fun _=>rfl) 199 (fun w=>ai w (some ⟨b1,0,none⟩) [.int .i64 o]∧ai w (some ⟨b2,0,none⟩) (s5 r)) (fun x=>aR x.owner o&&eE x.r r) (.pointer (some ⟨b1,0,none⟩)) (.pointer (some ⟨b2,0,none⟩)) l h hh hl (fun e _=>rQ e b1 b2 o r)
 unfold dj
 generalize (l.any fun x=>aR x.owner o&&eE x.r r)=q1 at *
 refine af.aG ae Tryz.func123 rfl (by decide) (n:=Tryz.f123.ntmps - 3) rfl rfl fun w0 av=>?_
 conv=>whnf
 repeat (refine aa.of ?_;conv=>whnf)
 intro b1
 conv=>whnf
 repeat (refine aa.of ?_;conv=>whnf)
 intro b2
 conv=>whnf
 repeat (refine aa.of ?_;conv=>whnf)
 intro b3
 conv=>whnf
 repeat (refine aa.of ?_;conv=>whnf)
 refine aw.look (hg b2 b3) ((Loc.row _ _).and ((Loc.row _ _).and (Loc.row _ _))) (fun w hst=>⟨hst.now,aK.box 1 rfl (by simp) rfl w hst,aK.box 2 rfl (by simp) rfl w hst⟩) ?_
 conv=>whnf
 repeat (refine aa.of ?_;conv=>whnf)
 exact⟨_,ax.refl _,rfl⟩
deriving instance DecidableEq for Rt
def rO (l:List Cp):Nat→Int→Option Rt
 | 0,_=>none
 | i+1,id=>if l[i]!.id=id then some l[i]!.r else rO l i id
def zR (l:List Cp):Nat→Int×Rt→Bool
 | 0,_=>false
 | i+1,k=>if (l[i]!.owner,l[i]!.r)=k then true else zR l i k
def fa (l:List Cp):Nat→Int
 | 0=>0
 | i+1=>l[i]!.id
def dR (nx:Int) (l:List Cp) (j:Nat):Bool:=
 decide (fa l j<l[j]!.id)&&(decide (l[j]!.id<nx)&&(yo l[j]!.r&&(decide (0≤l[j]!.owner∧l[j]!.owner<32)&&(!zR l j (l[j]!.owner,l[j]!.r) &&
  (if l[j]!.parent=0 then decide (l[j]!.owner=0) else match rO l j l[j]!.parent with
   | none=>false
   | some r=>eE r l[j]!.r)))))
def wk (r:Rt):Value:=.agg ⟨s5 r⟩
def iT (k:Int×Rt):Value:=dz [k.1,k.2.ty,k.2.peer,k.2.code]
theorem xE (a b:Int×Rt) (h:iT a=iT b):a=b:=by
 have:=oN h
 obtain⟨a1,a2,a3,a4⟩:=a
 obtain⟨b1,b2,b3,b4⟩:=b
 simp at this
 obtain⟨rfl,rfl,rfl,rfl⟩:=this
 rfl
theorem zg (a b:Int) (h:bH a=bH b):a=b:=by
 unfold bH at h
 injection h
theorem nE {l:List Cp} : ∀ {i:Nat},(∀ j,j<i→fa l j<l[j]!.id)→∀ {id:Int},fa l i<id→rO l i id=none
 | 0,_,_,_=>rfl
 | i+1,h,id,hid=>by
  have h1:=h i (by omega)
  have h2:l[i]!.id<id:=hid
  unfold rO
  rw[if_neg (by omega)]
  exact nE (fun j hj=>h j (by omega)) (by omega)
theorem gg {nx:Int} {l:List Cp} {j:Nat} (h:dR nx l j=true):fa l j<l[j]!.id:=by
 unfold dR at h
 simp only[Bool.and_eq_true,decide_eq_true_eq] at h
 exact h.1
theorem js (nx:Int) (l:List Cp) (h:Hd) (hh:h.Ok l.length) (hl:l.length≤140737488355328) :
 af Tryz.prog 111 [.agg ⟨[.int .i64 nx,h.v l.length]⟩] (fun w=>ai w h.a (l.flatMap bx)) (fun v F=>v = .bool (allI l.length (dR nx l)&&decide (l.length≤400∧1≤nx∧nx≤1099511627776))):=by
 refine af.aG ae Tryz.func111 rfl (by decide) (n:=Tryz.f111.ntmps - 1) rfl rfl fun w0 av=>?_
 conv=>whnf
 repeat (refine aa.of ?_;conv=>whnf)
 intro b0
 conv=>whnf
 repeat (refine aa.of ?_;conv=>whnf)
 refine ar.oC fun m1=>?_
 conv=>whnf
 repeat (refine aa.of ?_;conv=>whnf)
 refine ar.oC fun m2=>?_
 conv=>whnf
 repeat (refine aa.of ?_;conv=>whnf)
 refine az.loop ae (ι:=Nat×j_×j_) ([5,7,8,9,10]++List.range' 16 81) (fun x=>x.1≤l.length∧(∀ j,j<x.1→dR nx l j=true)∧ix bH x.2.1 (fun id=>(rO l x.1 id).map wk)∧ix iT x.2.2 (fun k=>if zR l x.1 k then some (.bool true) else none))
  (fun x=>[(5,.v (.int .i64 (fa l x.1))),(16,.v (.int .i64 (x.1:Int)))]) (fun _=>[[.int .i64 nx,h.v l.length]]) (fun x=>⟨fun w=>ai w h.a (l.flatMap bx),[(m1,Row.m (cw x.2.1) x.2.1.length),(m2,Row.m (cw x.2.2) x.2.2.length)]⟩)
  (fun x=>l.length - x.1) (0,[],[]) ⟨Nat.zero_le _,fun j h=>by omega,ix.empty zg fun a=>rfl,ix.empty xE fun a=>rfl⟩ ?_ rfl (ax.refl _) fun x hx=>?_
 · conv=>whnf
   repeat (first | exact au.nil | refine au.any ?_ | refine au.cons ?_)
 obtain⟨i,kv1,kv2⟩:=x
 obtain⟨hi,hall,hm1,hm2⟩:=hx
 dsimp only at hi hall hm1 hm2 ⊢
 conv=>whnf
 repeat (refine aa.of ?_;conv=>whnf)
 refine bF.split (fun hlt=>?_) (fun hlt=>?_)
 · have hlt':i<l.length:=by
    simp only[ao,decide_eq_true_eq] at hlt
    omega
   have hpr:=qa l[i].r
   obtain⟨q1,heq1⟩ : ∃ x,x=yo l[i].r:=⟨_,rfl⟩
   rw[← heq1] at hpr
   conv=>whnf
   repeat (refine aa.of ?_;conv=>whnf)
   refine ar.aj (ak.index ae (t:=82) rfl rfl rfl (by omega) (by omega) hh.nil fun ad had=>?_)
   conv=>whnf
   repeat (refine aa.of ?_;conv=>whnf)
   refine ar.aj (ak.aQ ae (t:=161) rfl rfl (ad:=ad) (k:=i*6) (L:=l.flatMap bx) (m:=bx l[i]) (.fact fun w hw=>had ▸ hw) (by simp) (a8 (cf:=bx) (z:=6) (fun _=>rfl) hlt') rfl ?_)
   conv=>whnf
   repeat (refine aa.of ?_;conv=>whnf)
   intro b7
   conv=>whnf
   repeat (refine aa.of ?_;conv=>whnf)
   intro b8
   conv=>whnf
   repeat (refine aa.of ?_;conv=>whnf)
   have hok:dR nx l i=(decide (fa l i<l[i].id)&&(decide (l[i].id<nx)&&(yo l[i].r&&(decide (0≤l[i].owner∧l[i].owner<32)&&(!zR l i (l[i].owner,l[i].r) &&
    (if l[i].parent=0 then decide (l[i].owner=0) else match rO l i l[i].parent with
     | none=>false
     | some r=>eE r l[i].r)))))):=by
    unfold dR
    rw[bn hlt']
   have hnext:dR nx l i=true→∀ j,j<i+1→dR nx l j=true:=fun hs j hj=>by
    rcases Nat.lt_or_eq_of_le (Nat.lt_succ_iff.1 hj) with h5 | h5
    · exact hall j h5
    · exact h5 ▸ hs
   have hk2 : ∀ k:Int×Rt,kG 4 (iT k):=fun k=>⟨_,rfl,rfl⟩
   have hk1 : ∀ k:Int,MapKept.IsKey (.int .i64) (bH k):=fun k=>rfl
   rcases hse:zR l i (l[i].owner,l[i].r) with _ | _<;>rcases hro:rO l i l[i].parent with _ | r
   · repeat' (first
      | (refine aa.of ?_;conv=>whnf)
      | (refine aw.val hpr (fun w hw=>trivial) (fun v D hv=>?_);subst hv;conv=>whnf)
      | (refine ar.aj (ak.lK ae (t:=323) rfl rfl rfl jC (k:=iT (l[i].owner,l[i].r)) (z:=.bool false) (fH.row (by simp)) (hk2 _) (hm2.all hk2) (hm2.no (by rw[hse];rfl)) (by kernel_rfl) ?_);rw[if_neg (by decide)];conv=>whnf)
      | (refine ar.aj (ak.zS ae (t:=322) rfl rfl rfl (d:=.int .i64) rfl (k:=bH l[i].parent) (z:=wk ⟨0,0,0⟩) (fH.row (by simp)) (hk1 _) (hm1.all hk1) (hm1.no (by rw[hro];rfl)) (by kernel_rfl) ?_);rw[if_pos rfl];conv=>whnf)
      | (intro b9;conv=>whnf)
      | (split<;>conv=>whnf))
     all_goals try (refine⟨_,ax.refl _,?_⟩;rw[aJ hlt' (by rw[hok,hse,hro,← heq1];clear hpr hall hm1 hm2 hnext hok;cases q1<;>simp_all [aC,aD,ao,aA,aE,eE]<;>(try omega))];first | done | rfl)
     all_goals
      have hgood:dR nx l i=true:=by rw[hok,hse,hro,← heq1];clear hpr hall hm1 hm2 hnext hok;cases q1<;>simp_all [aC,aD,ao,aA,aE,eE]<;>(try omega)
      have hfr:rO l i l[i].id=none:=nE (fun j hj=>gg (hall j hj)) (by have:=gg hgood;rwa [bn hlt'] at this)
      have hli:fa l (i+1)=l[i].id:=bn hlt' ▸ rfl
      have hn1:=hm1.push (a:=l[i].id) (v:=wk l[i].r) (g:=fun id=>(rO l (i+1) id).map wk) (by rw[hfr];rfl) (fun b=>by
       conv=>lhs;unfold rO
       rw[bn hlt']
       split<;>rfl)
      have hn2:=hm2.push (a:=(l[i].owner,l[i].r)) (v:=.bool true) (g:=fun k=>if zR l (i+1) k then some (.bool true) else none) (by rw[hse];rfl) (fun b=>by
       conv=>lhs;unfold zR
       rw[bn hlt']
       by_cases hb:(l[i].owner,l[i].r)=b
       · rw[if_pos hb,if_pos hb];rfl
       · rw[if_neg hb,if_neg hb])
      refine az.draw ae mixed rfl rfl ?_
      conv=>whnf
      repeat' (first
       | (refine dv.of ?_;conv=>whnf)
       | (refine aP.zl ae (t:=322) rfl rfl rfl (d:=.int .i64) rfl (r1:=[]) (r2:=[(m2,Row.m (cw kv2) kv2.length)]) (b:=m1) (l:=kv1) (k:=bH l[i].id) (v:=wk l[i].r) (hk1 _) (hm1.all hk1) (hm1.no (by rw[hfr];rfl)) ?_;conv=>whnf)
       | (refine aP.rD ae (t:=323) rfl rfl rfl jC (r1:=[(m1,Row.m (cw (kv1 ++ [(bH l[i].id,wk l[i].r)])) (kv1 ++ [(bH l[i].id,wk l[i].r)]).length)]) (r2:=[]) (b:=m2) (l:=kv2) (k:=iT (l[i].owner,l[i].r)) (v:=.bool true) (hk2 _) (hm2.all hk2) (hm2.no (by rw[hse];rfl)) ?_;conv=>whnf))
      all_goals
       refine⟨(i+1,kv1 ++ [(bH l[i].id,wk l[i].r)],kv2 ++ [(iT (l[i].owner,l[i].r),.bool true)]),⟨⟨hlt',hnext hgood,hn1,hn2⟩,by dsimp only;omega⟩,?_,?_,ax.refl _⟩
       · conv=>whnf
         refine⟨?_,rfl⟩
         repeat (first | exact au.nil | refine au.any ?_ | refine au.cons ?_ | refine au.eq (by rw[wrap_i64 (by omega)];rfl) ?_ | refine au.eq (by show _=SV.v (Value.int .i64 (fa l (i+1)));rw[hli]) ?_)
       · conv=>whnf
         exact⟨⟨rfl,rfl⟩,trivial⟩
   · repeat' (first
      | (refine aa.of ?_;conv=>whnf)
      | (refine aw.val hpr (fun w hw=>trivial) (fun v D hv=>?_);subst hv;conv=>whnf)
      | (refine ar.aj (ak.lK ae (t:=323) rfl rfl rfl jC (k:=iT (l[i].owner,l[i].r)) (z:=.bool false) (fH.row (by simp)) (hk2 _) (hm2.all hk2) (hm2.no (by rw[hse];rfl)) (by kernel_rfl) ?_);rw[if_neg (by decide)];conv=>whnf)
      | (refine ar.aj (ak.yI ae (t:=322) rfl rfl rfl (d:=.int .i64) rfl (k:=bH l[i].parent) (v:=wk r) (fH.row (by simp)) (hk1 _) (hm1.all hk1) (fun i2 u2 h2=>hm1.val (by rw[hro];rfl) i2 u2 h2) (hm1.has _ _ (by rw[hro];rfl)) ?_);rw[if_pos rfl];conv=>whnf)
      | (refine ar.aj (ak.yX wV (by kernel_rfl) (xs:=[r.ty,r.peer,r.code]) (ys:=[l[i].r.ty,l[i].r.peer,l[i].r.code]) rfl rfl ?_);conv=>whnf)
      | (intro b9;conv=>whnf)
      | (split<;>conv=>whnf))
     all_goals try (refine⟨_,ax.refl _,?_⟩;rw[aJ hlt' (by rw[hok,hse,hro,← heq1];clear hpr hall hm1 hm2 hnext hok;cases q1<;>simp_all [aC,aD,ao,aA,aE,eE]<;>(try omega))];first | done | rfl)
     all_goals
      have hgood:dR nx l i=true:=by rw[hok,hse,hro,← heq1];clear hpr hall hm1 hm2 hnext hok;cases q1<;>simp_all [aC,aD,ao,aA,aE,eE]<;>(try omega)
      have hfr:rO l i l[i].id=none:=nE (fun j hj=>gg (hall j hj)) (by have:=gg hgood;rwa [bn hlt'] at this)
      have hli:fa l (i+1)=l[i].id:=bn hlt' ▸ rfl
      have hn1:=hm1.push (a:=l[i].id) (v:=wk l[i].r) (g:=fun id=>(rO l (i+1) id).map wk) (by rw[hfr];rfl) (fun b=>by
       conv=>lhs;unfold rO
       rw[bn hlt']
       split<;>rfl)
      have hn2:=hm2.push (a:=(l[i].owner,l[i].r)) (v:=.bool true) (g:=fun k=>if zR l (i+1) k then some (.bool true) else none) (by rw[hse];rfl) (fun b=>by
       conv=>lhs;unfold zR
       rw[bn hlt']
       by_cases hb:(l[i].owner,l[i].r)=b
       · rw[if_pos hb,if_pos hb];rfl
       · rw[if_neg hb,if_neg hb])
      refine az.draw ae mixed rfl rfl ?_
      conv=>whnf
      repeat' (first
       | (refine dv.of ?_;conv=>whnf)
       | (refine aP.zl ae (t:=322) rfl rfl rfl (d:=.int .i64) rfl (r1:=[]) (r2:=[(m2,Row.m (cw kv2) kv2.length)]) (b:=m1) (l:=kv1) (k:=bH l[i].id) (v:=wk l[i].r) (hk1 _) (hm1.all hk1) (hm1.no (by rw[hfr];rfl)) ?_;conv=>whnf)
       | (refine aP.rD ae (t:=323) rfl rfl rfl jC (r1:=[(m1,Row.m (cw (kv1 ++ [(bH l[i].id,wk l[i].r)])) (kv1 ++ [(bH l[i].id,wk l[i].r)]).length)]) (r2:=[]) (b:=m2) (l:=kv2) (k:=iT (l[i].owner,l[i].r)) (v:=.bool true) (hk2 _) (hm2.all hk2) (hm2.no (by rw[hse];rfl)) ?_;conv=>whnf))
      all_goals
       refine⟨(i+1,kv1 ++ [(bH l[i].id,wk l[i].r)],kv2 ++ [(iT (l[i].owner,l[i].r),.bool true)]),⟨⟨hlt',hnext hgood,hn1,hn2⟩,by dsimp only;omega⟩,?_,?_,ax.refl _⟩
       · conv=>whnf
         refine⟨?_,rfl⟩
         repeat (first | exact au.nil | refine au.any ?_ | refine au.cons ?_ | refine au.eq (by rw[wrap_i64 (by omega)];rfl) ?_ | refine au.eq (by show _=SV.v (Value.int .i64 (fa l (i+1)));rw[hli]) ?_)
       · conv=>whnf
         exact⟨⟨rfl,rfl⟩,trivial⟩
   · repeat' (first
      | (refine aa.of ?_;conv=>whnf)
      | (refine aw.val hpr (fun w hw=>trivial) (fun v D hv=>?_);subst hv;conv=>whnf)
      | (refine ar.aj (ak.lC ae (t:=323) rfl rfl rfl jC (k:=iT (l[i].owner,l[i].r)) (v:=.bool true) (fH.row (by simp)) (hk2 _) (hm2.all hk2) (fun i2 u2 h2=>hm2.val (by rw[hse];rfl) i2 u2 h2) (hm2.has _ _ (by rw[hse];rfl)) ?_);rw[if_neg (by decide)];conv=>whnf)
      | (split<;>conv=>whnf))
     all_goals try (refine⟨_,ax.refl _,?_⟩;rw[aJ hlt' (by rw[hok,hse,hro,← heq1];clear hpr hall hm1 hm2 hnext hok;cases q1<;>simp_all [aC,aD,ao,aA,aE,eE]<;>(try omega))];first | done | rfl)
   · repeat' (first
      | (refine aa.of ?_;conv=>whnf)
      | (refine aw.val hpr (fun w hw=>trivial) (fun v D hv=>?_);subst hv;conv=>whnf)
      | (refine ar.aj (ak.lC ae (t:=323) rfl rfl rfl jC (k:=iT (l[i].owner,l[i].r)) (v:=.bool true) (fH.row (by simp)) (hk2 _) (hm2.all hk2) (fun i2 u2 h2=>hm2.val (by rw[hse];rfl) i2 u2 h2) (hm2.has _ _ (by rw[hse];rfl)) ?_);rw[if_neg (by decide)];conv=>whnf)
      | (split<;>conv=>whnf))
     all_goals try (refine⟨_,ax.refl _,?_⟩;rw[aJ hlt' (by rw[hok,hse,hro,← heq1];clear hpr hall hm1 hm2 hnext hok;cases q1<;>simp_all [aC,aD,ao,aA,aE,eE]<;>(try omega))];first | done | rfl)
 · have hie:i=l.length:=by
    simp only[ao,decide_eq_false_iff_not] at hlt
    omega
   subst hie
   conv=>whnf
   repeat (refine aa.of ?_;conv=>whnf)
   refine⟨_,ax.refl _,?_⟩
   rw[aV hall,Bool.true_and]
   congr 1
   rw[Bool.eq_iff_iff]
   simp[aC,aD,and_assoc]
   try omega
structure gU where
 kind:Int
 st:Int
 call:Int
 stp:Bool
 cls:Bool
 dn:Bool
 res:Int
 data:Bs
instance:Inhabited gU:=⟨⟨0,0,0,false,false,false,0,default⟩⟩
def fL (x:gU):List Value:=[.int .i64 x.kind,.int .i64 x.st,.int .i64 x.call,.bool x.stp,.bool x.cls,.bool x.dn,.int .i64 x.res,du x.data]
theorem kP (a:Int):af Tryz.prog 115 [.int .i64 a] (fun _=>True) (fun v F=>v = .bool (decide (1≤a∧a≤10))):=by
 refine af.aG ae Tryz.func115 rfl (by decide) (n:=Tryz.f115.ntmps - 1) rfl rfl fun w0 av=>?_
 conv=>whnf
 repeat (refine aa.of ?_;conv=>whnf)
 exact⟨_,ax.refl _,by congr 1;rw[Bool.eq_iff_iff];simp[aD,ao,aC,aB,aA,aE,and_assoc];try omega⟩
theorem fK (a:Int):af Tryz.prog 116 [.int .i64 a] (fun _=>True) (fun v F=>v = .bool (decide (16≤a∧a<32))):=by
 refine af.aG ae Tryz.func116 rfl (by decide) (n:=Tryz.f116.ntmps - 1) rfl rfl fun w0 av=>?_
 conv=>whnf
 repeat (refine aa.of ?_;conv=>whnf)
 exact⟨_,ax.refl _,by congr 1;rw[Bool.eq_iff_iff];simp[aD,ao,aC,aB,aA,aE,and_assoc];try omega⟩
def gy (x:gU):Bool:=aR x.st 0&&(aR x.call 0&&(!x.stp&&(!x.cls&&(!x.dn&&(aR x.res 0&&decide (x.data.n=0))))))
theorem r4 (x:gU):af Tryz.prog 119 [.agg ⟨fL x⟩] (fun _=>True) (fun v F=>v = .bool (gy x)):=by
 unfold gy
 refine af.aG ae Tryz.func119 rfl (by decide) (n:=Tryz.f119.ntmps - 1) rfl rfl fun w0 av=>?_
 conv=>whnf
 repeat (refine aa.of ?_;conv=>whnf)
 intro b1
 conv=>whnf
 repeat (refine aa.of ?_;conv=>whnf)
 repeat' (first
  | (refine cj.mk ?_ ?_;(focus (first | exact ax.refl _ | exact ax.left _ _ | exact ax.of_le ⟨List.sublist_append_left _ _,fun w h=>h⟩ | exact ax.of_le ⟨List.Sublist.refl _,fun w h=>h.1⟩));conv=>whnf))
 all_goals refine⟨_,ax.refl _,?_⟩
 all_goals first | rfl | (congr 1;rw[Bool.eq_iff_iff];simp_all [aD,ao,aC,aB,aA,aE,and_assoc];done)
def sU (x:gU):Bool:=if x.dn then decide (x.data.n≤128) else (aR x.res 0&&decide (x.data.n=0))
def eB (x:gU):Bool:=if aR x.st 1 then (if fI x.call 0||(dL x.call 20||x.dn) then false else sU x) else if aR x.st 0||aR x.st 2 then (if fw x.call 0||(aR x.st 2&&fw x.kind 3) then false else sU x) else false
theorem oI (x:gU):af Tryz.prog 118 [.agg ⟨fL x⟩] (fun _=>True) (fun v F=>v = .bool (eB x)):=by
 unfold eB sU
 refine af.aG ae Tryz.func118 rfl (by decide) (n:=Tryz.f118.ntmps - 1) rfl rfl fun w0 av=>?_
 conv=>whnf
 repeat (refine aa.of ?_;conv=>whnf)
 intro b1
 conv=>whnf
 repeat (refine aa.of ?_;conv=>whnf)
 repeat' (first
  | (refine aa.of ?_;conv=>whnf)
  | (refine bF.split (fun h=>?_) (fun h=>?_)<;>conv=>whnf)
  | (split<;>conv=>whnf))
 all_goals refine⟨_,ax.refl _,?_⟩
 all_goals first | rfl | (congr 1;rw[Bool.eq_iff_iff];simp_all [aD,ao,aC,aB,aA,aE,and_assoc];done) | (congr 1;rw[Bool.eq_iff_iff];simp_all [aD,ao,aC,aB,aA,aE,and_assoc];omega)
structure jf (C:List Value) (T:Nat→gU):Prop where
 len:C.length=376
 at' : ∀ i,i<32→(C.drop (i*8)).take 8=fL (T i)
theorem jf.get {C:List Value} {T:Nat→gU} (h:jf C T) {i:Nat} (hi:i<32):((C.take 256).drop (i*8)).take 8=fL (T i):=by
 rw[← h.at' i hi]
 apply List.ext_getElem?
 intro j
 rw[List.getElem?_take,List.getElem?_take,List.getElem?_drop,List.getElem?_drop,List.getElem?_take]
 by_cases hj:j<8
 · rw[if_pos hj,if_pos hj,if_pos (by omega)]
 · rw[if_neg hj,if_neg hj]
def kindOk (T:Nat→gU) (i:Nat):Bool:=decide ((1≤i∧i≤10→(T i).kind=1)∧(16≤i→(T i).kind=0∨(T i).kind=2∨(T i).kind=3)∧(¬ (1≤i∧i≤10)→¬ 16≤i→(T i).kind=0))
theorem wx (C:List Value) (T:Nat→gU) (hT:jf C T):af Tryz.prog 62 [.agg ⟨C⟩] (fun _=>True) (fun v F=>v = .bool (allI 32 (kindOk T))):=by
 refine af.aG ae Tryz.func62 rfl (by decide) (n:=Tryz.f62.ntmps - 1) rfl rfl fun w0 av=>?_
 conv=>whnf
 repeat (refine aa.of ?_;conv=>whnf)
 refine ar.bQ fun br=>?_
 conv=>whnf
 repeat (refine aa.of ?_;conv=>whnf)
 refine ar.aj (ak.aQ ae rfl rfl (ad:=⟨br,0,none⟩) (k:=0) (L:=C) (m:=C.take 256) (aK.row (by simp[Value.cells])) rfl (by rw[List.drop_zero]) (by rw[List.length_take,hT.len];rfl) ?_)
 conv=>whnf
 repeat (refine aa.of ?_;conv=>whnf)
 refine az.loop ae (ι:=Nat) ([3,4,5]++List.range' 9 30) (fun x=>x≤32∧∀ j,j<x→kindOk T j=true)
  (fun x=>[(9,.v (.int .i64 (x:Int)))]) (fun _=>[]) (fun _=>⟨fun w=>True,[(br,Row.c C)]⟩)
  (fun x=>32 - x) 0 ⟨Nat.zero_le _,fun j h=>by omega⟩ ?_ rfl (ax.of_le ⟨by simp[Value.cells],fun w hw=>hw⟩) fun i hi=>?_
 · conv=>whnf
   repeat (first | exact au.nil | refine au.any ?_ | refine au.cons ?_)
 obtain⟨hi,hall⟩:=hi
 conv=>whnf
 repeat (refine aa.of ?_;conv=>whnf)
 refine bF.split (fun hlt=>?_) (fun hlt=>?_)
 · have hlt':i<32:=by
    simp[ao] at hlt
    omega
   have h1:=kP (i:Int)
   have h2:=fK (i:Int)
   have hok:kindOk T i=decide ((1≤i∧i≤10→(T i).kind=1)∧(16≤i→(T i).kind=0∨(T i).kind=2∨(T i).kind=3)∧(¬ (1≤i∧i≤10)→¬ 16≤i→(T i).kind=0)):=rfl
   have hnext:kindOk T i=true→∀ j,j<i+1→kindOk T j=true:=fun hs j hj=>by
    rcases Nat.lt_or_eq_of_le (Nat.lt_succ_iff.1 hj) with h5 | h5
    · exact hall j h5
    · exact h5 ▸ hs
   obtain⟨q1,heq1⟩ : ∃ q,q=decide (1≤(i:Int)∧(i:Int)≤10):=⟨_,rfl⟩
   obtain⟨q2,heq2⟩ : ∃ q,q=decide (16≤(i:Int)∧(i:Int)<32):=⟨_,rfl⟩
   rw[← heq1] at h1
   rw[← heq2] at h2
   conv=>whnf
   repeat (refine aa.of ?_;conv=>whnf)
   refine ar.aj (ak.rb ae (t:=78) rfl rfl rfl rfl (l:=C.take 256) (m:=fL (T i)) i rfl hlt' (hT.get hlt') (by rw[List.length_take,hT.len];show i*8+8≤_;omega) ?_)
   conv=>whnf
   repeat (refine aa.of ?_;conv=>whnf)
   intro b4
   conv=>whnf
   repeat (refine aa.of ?_;conv=>whnf)
   repeat' (first
    | (refine aa.of ?_;conv=>whnf)
    | (refine aw.val h1 (fun w hw=>trivial) (fun v D hv=>?_);subst hv;conv=>whnf)
    | (refine aw.val h2 (fun w hw=>trivial) (fun v D hv=>?_);subst hv;conv=>whnf)
    | (refine bF.split (fun h=>?_) (fun h=>?_)<;>conv=>whnf))
   all_goals first
    | (refine⟨_,ax.refl _,?_⟩;rw[aJ hlt' (by rw[hok];((try subst heq1);(try subst heq2);(try subst heq3);simp only[cond_true,cond_false,ao,aC,aB,aD,aA,aE,decide_eq_true_eq,decide_eq_false_iff_not,beq_iff_eq,bne_iff_ne,ne_eq,beq_eq_false_iff_ne,bne_eq_false_iff_eq,Bool.not_eq_true,Bool.not_eq_false,Bool.and_true,Bool.true_and,Bool.and_false,Bool.false_and,Bool.or_true,Bool.or_false,Bool.true_or,Bool.false_or,Bool.not_eq_true',Bool.not_eq_false',Bool.not_true,Bool.not_false,Bool.or_eq_true,Bool.or_eq_false_iff,and_imp] at *;first | omega))];first | done | rfl)
    | (
     refine⟨i+1,⟨⟨hlt',hnext (by rw[hok];((try subst heq1);(try subst heq2);(try subst heq3);simp only[cond_true,cond_false,ao,aC,aB,aD,aA,aE,decide_eq_true_eq,decide_eq_false_iff_not,beq_iff_eq,bne_iff_ne,ne_eq,beq_eq_false_iff_ne,bne_eq_false_iff_eq,Bool.not_eq_true,Bool.not_eq_false,Bool.and_true,Bool.true_and,Bool.and_false,Bool.false_and,Bool.or_true,Bool.or_false,Bool.true_or,Bool.false_or,Bool.not_eq_true',Bool.not_eq_false',Bool.not_true,Bool.not_false,Bool.or_eq_true,Bool.or_eq_false_iff,and_imp] at *;first | omega))⟩,by dsimp only;omega⟩,?_,?_,ax.refl _⟩;(conv=>whnf);refine⟨?_,rfl⟩;repeat (first | exact au.nil | refine au.any ?_ | refine au.cons ?_ | refine au.eq (by rw[wrap_i64 (by omega)];rfl) ?_)
     (conv=>whnf);exact trivial)
 · have hie:i=32:=by
    simp[ao] at hlt
    omega
   subst hie
   conv=>whnf
   repeat (refine aa.of ?_;conv=>whnf)
   exact⟨_,ax.refl _,by rw[aV hall]⟩
theorem jf.kind {C:List Value} {T:Nat→gU} (h:jf C T) {i:Nat} (hi:i<32):C[i*8]? = some (.int .i64 (T i).kind):=by
 have:=congrArg (·[0]?) (h.at' i hi)
 simpa [fL] using this
theorem gz (C:List Value) (T:Nat→gU) (hT:jf C T) (i:Nat) (hi:i<32):af Tryz.prog 117 [.agg ⟨C⟩,.int .i64 (i:Int)] (fun _=>True) (fun v F=>v = .bool (fw (T i).kind 0)):=by
 refine af.aG ae Tryz.func117 rfl (by decide) (n:=Tryz.f117.ntmps - 2) rfl rfl fun w0 av=>?_
 conv=>whnf
 repeat (refine aa.of ?_;conv=>whnf)
 refine ar.bQ fun br=>?_
 conv=>whnf
 repeat (refine aa.of ?_;conv=>whnf)
 refine ar.aj (ak.bj ae (t:=78) rfl rfl rfl i rfl hi rfl ?_)
 conv=>whnf
 repeat (refine aa.of ?_;conv=>whnf)
 refine ar.aj (ak.aH ae rfl rfl (ad:=⟨br,0,none⟩) (k:=i*8) (L:=C) (v:=.int .i64 (T i).kind) (aK.row (by simp[Value.cells])) (fun _=>by simp[Addr.add]) (hT.kind hi) ?_)
 conv=>whnf
 repeat (refine aa.of ?_;conv=>whnf)
 exact⟨_,ax.refl _,rfl⟩
def ev (T:Nat→gU) (i:Nat):Bool:=if 16≤i∧(T i).kind≠0 then eB (T i) else gy (T i)
theorem sr (C:List Value) (T:Nat→gU) (hT:jf C T) (hone : ∀ v∈C,a7 v=true):af Tryz.prog 63 [.agg ⟨C⟩] (fun _=>True) (fun v F=>v = .bool (allI 32 (ev T))):=by
 refine af.aG ae Tryz.func63 rfl (by decide) (n:=Tryz.f63.ntmps - 1) rfl rfl fun w0 av=>?_
 conv=>whnf
 repeat (refine aa.of ?_;conv=>whnf)
 refine ar.bQ fun br=>?_
 conv=>whnf
 repeat (refine aa.of ?_;conv=>whnf)
 refine ar.aj (ak.aQ ae rfl rfl (ad:=⟨br,0,none⟩) (k:=0) (L:=C) (m:=C.take 256) (aK.row (by simp[Value.cells])) rfl (by rw[List.drop_zero]) (by rw[List.length_take,hT.len];rfl) ?_)
 conv=>whnf
 repeat (refine aa.of ?_;conv=>whnf)
 refine az.loop ae (ι:=Nat) ([3,4]++List.range' 8 18) (fun x=>x≤32∧∀ j,j<x→ev T j=true)
  (fun x=>[(8,.v (.int .i64 (x:Int)))]) (fun _=>[]) (fun _=>⟨fun w=>True,[(br,Row.c C)]⟩)
  (fun x=>32 - x) 0 ⟨Nat.zero_le _,fun j h=>by omega⟩ ?_ rfl (ax.of_le ⟨by simp[Value.cells],fun w hw=>hw⟩) fun i hi=>?_
 · conv=>whnf
   repeat (first | exact au.nil | refine au.any ?_ | refine au.cons ?_)
 obtain⟨hi,hall⟩:=hi
 conv=>whnf
 repeat (refine aa.of ?_;conv=>whnf)
 refine bF.split (fun hlt=>?_) (fun hlt=>?_)
 · have hlt':i<32:=by
    simp[ao] at hlt
    omega
   have h2:=fK (i:Int)
   have h3:=gz C T hT i hlt'
   have h4:=oI (T i)
   have h5:=r4 (T i)
   have hnext:ev T i=true→∀ j,j<i+1→ev T j=true:=fun hs j hj=>by
    rcases Nat.lt_or_eq_of_le (Nat.lt_succ_iff.1 hj) with h5 | h5
    · exact hall j h5
    · exact h5 ▸ hs
   have hok:ev T i=(if 16≤i∧(T i).kind≠0 then eB (T i) else gy (T i)):=rfl
   obtain⟨q1,heq1⟩ : ∃ q,q=decide (16≤(i:Int)∧(i:Int)<32):=⟨_,rfl⟩
   obtain⟨q2,heq2⟩ : ∃ q,q=fw (T i).kind 0:=⟨_,rfl⟩
   rw[← heq1] at h2
   rw[← heq2] at h3
   have hc:(q1&&q2)=decide (16≤i∧(T i).kind≠0):=by
    rw[heq1,heq2,Bool.eq_iff_iff]
    simp[aE]
    omega
   have hok2:ev T i=(if (q1&&q2)=true then eB (T i) else gy (T i)):=by
    rw[hc,hok]
    by_cases hx:16≤i∧(T i).kind≠0
    · rw[if_pos hx,decide_eq_true hx,if_pos rfl]
    · rw[if_neg hx,decide_eq_false hx,if_neg (by decide)]
   clear hok hc heq1 heq2
   generalize eB (T i)=q3 at *
   generalize gy (T i)=q4 at *
   conv=>whnf
   repeat (refine aa.of ?_;conv=>whnf)
   refine ar.aj (ak.rb ae (t:=78) rfl rfl rfl rfl (l:=C.take 256) (m:=fL (T i)) i rfl hlt' (hT.get hlt') (by rw[List.length_take,hT.len];show i*8+8≤_;omega) ?_)
   conv=>whnf
   repeat (refine aa.of ?_;conv=>whnf)
   intro b4
   conv=>whnf
   repeat (refine aa.of ?_;conv=>whnf)
   repeat' (first
    | (refine aw.val h2 (fun w hw=>trivial) (fun v D hv=>?_);subst hv;conv=>whnf)
    | (refine aw.val h3 (fun w hw=>trivial) (fun v D hv=>?_);subst hv;conv=>whnf)
    | (refine aw.val h4 (fun w hw=>trivial) (fun v D hv=>?_);subst hv;conv=>whnf)
    | (refine aw.val h5 (fun w hw=>trivial) (fun v D hv=>?_);subst hv;conv=>whnf)
    | (refine ar.aj (ak.aQ ae rfl rfl (ad:=⟨br,0,none⟩) (k:=0) (L:=C) (m:=C) (aK.row (by simp[Value.cells])) rfl (by rw[List.drop_zero];exact List.take_of_length_le (by rw[hT.len];exact Nat.le_refl _)) hT.len ?_);conv=>whnf)
    | (cases q1<;>conv=>whnf)
    | (cases q2<;>conv=>whnf)
    | (cases q3<;>conv=>whnf)
    | (cases q4<;>conv=>whnf))
   all_goals first
    | (refine⟨_,ax.refl _,?_⟩;rw[aJ hlt' (by rw[hok2];rfl)];done)
    | (
     refine⟨i+1,⟨⟨hlt',hnext (by rw[hok2];rfl)⟩,by dsimp only;omega⟩,?_,?_,ax.refl _⟩;(conv=>whnf);refine⟨?_,rfl⟩;repeat (first | exact au.nil | refine au.any ?_ | refine au.cons ?_ | refine au.eq (by rw[wrap_i64 (by omega)];rfl) ?_)
     (conv=>whnf);exact trivial)
 · have hie:i=32:=by
    simp[ao] at hlt
    omega
   subst hie
   conv=>whnf
   repeat (refine aa.of ?_;conv=>whnf)
   exact⟨_,ax.refl _,by rw[aV hall]⟩
def fF (D:Nat→Bool):Nat→Nat
 | 0=>0
 | i+1=>fF D i+(if D i then 1 else 0)
theorem ow (D:Nat→Bool) : ∀ i,fF D i≤i
 | 0=>Nat.le_refl _
 | i+1=>by
  have:=ow D i
  unfold fF
  split<;>omega
def kb (D:Nat→Bool):Bool:=decide (fF D 11≤1)&&(!D 0 && !D 1)
theorem xH (C:List Value) (D:Nat→Bool) (hl:C.length=376) (hD : ∀ i,i<11→C[256+i]? = some (.bool (D i))):af Tryz.prog 71 [.agg ⟨C⟩] (fun _=>True) (fun v F=>v = .bool (kb D)):=by
 refine af.aG ae Tryz.func71 rfl (by decide) (n:=Tryz.f71.ntmps - 1) rfl rfl fun w0 av=>?_
 conv=>whnf
 repeat (refine aa.of ?_;conv=>whnf)
 refine ar.bQ fun br=>?_
 conv=>whnf
 repeat (refine aa.of ?_;conv=>whnf)
 refine ar.aj (ak.aQ ae rfl rfl (ad:=⟨br,0,none⟩) (k:=256) (L:=C) (m:=(C.drop 256).take 11) (aK.row (by simp[Value.cells])) rfl rfl (by rw[List.length_take,List.length_drop,hl];rfl) ?_)
 conv=>whnf
 repeat (refine aa.of ?_;conv=>whnf)
 refine az.loop ae (ι:=Nat) ([3,5]++List.range' 9 7) (fun x=>x≤11)
  (fun x=>[(3,.v (.int .i64 (fF D x:Int))),(9,.v (.int .i64 (x:Int)))]) (fun _=>[]) (fun _=>⟨fun w=>True,[(br,Row.c C)]⟩)
  (fun x=>11 - x) 0 (Nat.zero_le _) ?_ rfl (ax.of_le ⟨by simp[Value.cells],fun w hw=>hw⟩) fun i hi=>?_
 · conv=>whnf
   repeat (first | exact au.nil | refine au.any ?_ | refine au.cons ?_)
 have hle:=ow D i
 conv=>whnf
 repeat (refine aa.of ?_;conv=>whnf)
 refine bF.split (fun hlt=>?_) (fun hlt=>?_)
 · have hlt':i<11:=by
    simp[ao] at hlt
    omega
   have hn:fF D (i+1)=fF D i+(if D i then 1 else 0):=rfl
   conv=>whnf
   repeat (refine aa.of ?_;conv=>whnf)
   refine ar.aj (ak.hJ ae (t:=26) rfl rfl rfl rfl rfl (l:=(C.drop 256).take 11) i rfl hlt' (v:=.bool (D i)) (by rw[List.getElem?_take,if_pos hlt',List.getElem?_drop];exact hD i hlt') ?_)
   conv=>whnf
   repeat (refine aa.of ?_;conv=>whnf)
   generalize D i=q at *
   cases q
   all_goals
    conv=>whnf
    repeat (refine aa.of ?_;conv=>whnf)
    refine⟨i+1,⟨hlt',by dsimp only;omega⟩,?_,?_,ax.refl _⟩
    · conv=>whnf
      refine⟨?_,rfl⟩
      repeat (first | exact au.nil | refine au.any ?_ | refine au.cons ?_ | refine au.eq (by rw[wrap_i64 (by omega)];rfl) ?_ | refine au.eq (by show _=SV.v (Value.int .i64 ((fF D (i+1):Nat):Int));rw[hn];first | rfl | (rw[wrap_i64 (by omega)];rfl)) ?_)
    · conv=>whnf
      exact trivial
 · have hie:i=11:=by
    simp[ao] at hlt
    omega
   have hdo:kb D=(eW ((fF D i:Nat):Int) 1&&(!D 0 && !D 1)):=by
    rw[hie]
    unfold kb
    congr 1
    rw[aC,Bool.eq_iff_iff]
    simp
    omega
   have h0:=hD 0 (by decide)
   have h1:=hD 1 (by decide)
   rw[hdo]
   generalize fF D i=dn at *
   generalize D 0=e0 at *
   generalize D 1=e1 at *
   generalize hq:eW (dn:Int) 1=q
   conv=>whnf
   repeat (refine aa.of ?_;conv=>whnf)
   rw[hq]
   cases q<;>cases e0<;>cases e1
   all_goals
    conv=>whnf
    repeat (refine aa.of ?_;conv=>whnf)
    repeat' (first
     | (refine ar.aj (ak.bj ae (t:=26) rfl rfl rfl 0 rfl (by decide) rfl ?_);conv=>whnf)
     | (refine ar.aj (ak.bj ae (t:=26) rfl rfl rfl 1 rfl (by decide) rfl ?_);conv=>whnf)
     | (refine ar.aj (ak.aH ae rfl rfl (ad:=⟨br,0,none⟩) (k:=256) (L:=C) (v:=_) (aK.row (by simp[Value.cells])) (fun _=>rfl) h0 ?_);conv=>whnf)
     | (refine ar.aj (ak.aH ae rfl rfl (ad:=⟨br,0,none⟩) (k:=257) (L:=C) (v:=_) (aK.row (by simp[Value.cells])) (fun _=>rfl) h1 ?_);conv=>whnf))
   all_goals exact⟨_,ax.refl _,rfl⟩
def gF (n:Nat→Nat) (i:Nat):Bool:=decide (16≤i∨n i=0)
theorem uc (C:List Value) (S:Nat→Hd) (n:Nat→Nat) (hl:C.length=376) (hS : ∀ i,i<32→C[275+i]? = some ((S i).v (n i))):af Tryz.prog 66 [.agg ⟨C⟩] (fun _=>True) (fun v F=>v = .bool (allI 32 (gF n))):=by
 refine af.aG ae Tryz.func66 rfl (by decide) (n:=Tryz.f66.ntmps - 1) rfl rfl fun w0 av=>?_
 conv=>whnf
 repeat (refine aa.of ?_;conv=>whnf)
 refine ar.bQ fun br=>?_
 conv=>whnf
 repeat (refine aa.of ?_;conv=>whnf)
 refine ar.aj (ak.aQ ae rfl rfl (ad:=⟨br,0,none⟩) (k:=275) (L:=C) (m:=(C.drop 275).take 32) (aK.row (by simp[Value.cells])) rfl rfl (by rw[List.length_take,List.length_drop,hl];rfl) ?_)
 conv=>whnf
 repeat (refine aa.of ?_;conv=>whnf)
 refine az.loop ae (ι:=Nat) ([3,4]++List.range' 8 13) (fun x=>x≤32∧∀ j,j<x→gF n j=true)
  (fun x=>[(8,.v (.int .i64 (x:Int)))]) (fun _=>[]) (fun _=>⟨fun w=>True,[(br,Row.c C)]⟩)
  (fun x=>32 - x) 0 ⟨Nat.zero_le _,fun j h=>by omega⟩ ?_ rfl (ax.of_le ⟨by simp[Value.cells],fun w hw=>hw⟩) fun i hi=>?_
 · conv=>whnf
   repeat (first | exact au.nil | refine au.any ?_ | refine au.cons ?_)
 obtain⟨hi,hall⟩:=hi
 conv=>whnf
 repeat (refine aa.of ?_;conv=>whnf)
 refine bF.split (fun hlt=>?_) (fun hlt=>?_)
 · have hlt':i<32:=by
    simp[ao] at hlt
    omega
   have h2:=fK (i:Int)
   have hok:gF n i=decide (16≤i∨n i=0):=rfl
   have hnext:gF n i=true→∀ j,j<i+1→gF n j=true:=fun hs j hj=>by
    rcases Nat.lt_or_eq_of_le (Nat.lt_succ_iff.1 hj) with h5 | h5
    · exact hall j h5
    · exact h5 ▸ hs
   obtain⟨q1,heq1⟩ : ∃ q,q=decide (16≤(i:Int)∧(i:Int)<32):=⟨_,rfl⟩
   rw[← heq1] at h2
   conv=>whnf
   repeat (refine aa.of ?_;conv=>whnf)
   refine ar.aj (ak.hJ ae (t:=93) rfl rfl rfl rfl rfl (l:=(C.drop 275).take 32) i rfl hlt' (v:=(S i).v (n i)) (by rw[List.getElem?_take,if_pos hlt',List.getElem?_drop];exact hS i hlt') ?_)
   conv=>whnf
   repeat (refine aa.of ?_;conv=>whnf)
   repeat' (first
    | (refine aa.of ?_;conv=>whnf)
    | (refine aw.val h2 (fun w hw=>trivial) (fun v D hv=>?_);subst hv;conv=>whnf)
    | (split<;>conv=>whnf))
   all_goals first
    | (refine⟨_,ax.refl _,?_⟩;rw[aJ hlt' (by rw[hok];((try subst heq1);(try subst heq2);(try subst heq3);simp only[cond_true,cond_false,ao,aC,aB,aD,aA,aE,decide_eq_true_eq,decide_eq_false_iff_not,beq_iff_eq,bne_iff_ne,ne_eq,beq_eq_false_iff_ne,bne_eq_false_iff_eq,Bool.not_eq_true,Bool.not_eq_false,Bool.and_true,Bool.true_and,Bool.and_false,Bool.false_and,Bool.or_true,Bool.or_false,Bool.true_or,Bool.false_or,Bool.not_eq_true',Bool.not_eq_false',Bool.not_true,Bool.not_false] at *;first | (simp_all;omega)))];first | done | rfl)
    | (
     refine⟨i+1,⟨⟨hlt',hnext (by rw[hok];((try subst heq1);(try subst heq2);(try subst heq3);simp only[cond_true,cond_false,ao,aC,aB,aD,aA,aE,decide_eq_true_eq,decide_eq_false_iff_not,beq_iff_eq,bne_iff_ne,ne_eq,beq_eq_false_iff_ne,bne_eq_false_iff_eq,Bool.not_eq_true,Bool.not_eq_false,Bool.and_true,Bool.true_and,Bool.and_false,Bool.false_and,Bool.or_true,Bool.or_false,Bool.true_or,Bool.false_or,Bool.not_eq_true',Bool.not_eq_false',Bool.not_true,Bool.not_false] at *;first | (simp_all;omega)))⟩,by dsimp only;omega⟩,?_,?_,ax.refl _⟩;(conv=>whnf);refine⟨?_,rfl⟩;repeat (first | exact au.nil | refine au.any ?_ | refine au.cons ?_ | refine au.eq (by rw[wrap_i64 (by omega)];rfl) ?_)
     (conv=>whnf);exact trivial)
 · have hie:i=32:=by
    simp[ao] at hlt
    omega
   subst hie
   conv=>whnf
   repeat (refine aa.of ?_;conv=>whnf)
   exact⟨_,ax.refl _,by rw[aV hall]⟩
structure Sl (α:Type) where
 h:Hd
 l:List α
instance {α:Type}:Inhabited (Sl α):=⟨⟨Hd.nil,[]⟩⟩
def Sl.v {α:Type} (x:Sl α):Value:=x.h.v x.l.length
structure Sl.Ok {α:Type} (x:Sl α):Prop where
 h:x.h.Ok x.l.length
 le:x.l.length≤140737488355328
def Sl.At {α:Type} (x:Sl α) (cf:α→List Value) (w:World):Prop:=ai w x.h.a (x.l.flatMap cf)
def Sl.As {α:Type} (x:Sl α) (vf:α→Value) (w:World):Prop:=ai w x.h.a (x.l.map vf)
structure DM where
 tag:Int
 frame:Int
 w:Bool
 opn:Bool
def rJ (x:DM):List Value:=[.int .i64 x.tag,.int .i64 x.frame,.bool x.w,.bool x.opn]
structure En where
 kind:Int
 task:Int
 call:Int
 a0:Int
 a1:Int
 a2:Int
 res:Int
 data:Bs
instance:Inhabited En:=⟨⟨0,0,0,0,0,0,0,default⟩⟩
def wo (x:En):List Value:=[.int .i64 x.kind,.int .i64 x.task,.int .i64 x.call,.int .i64 x.a0,.int .i64 x.a1,.int .i64 x.a2,.int .i64 x.res,du x.data]
structure Acc where
 task:Int
 dev:Int
 frame:Int
 frm:Int
 len:Int
 w:Bool
def rF (x:Acc):List Value:=[.int .i64 x.task,.int .i64 x.dev,.int .i64 x.frame,.int .i64 x.frm,.int .i64 x.len,.bool x.w]
structure Db where
 kind:Int
 task:Int
 other:Int
def aU (x:Db):List Value:=[.int .i64 x.kind,.int .i64 x.task,.int .i64 x.other]
structure bW where
 T:Nat→gU
 D:Nat→Bool
 q:Sl Mg
 pr:Sl Pr
 nx:Int
 cp:Sl Cp
 gr:Sl Gr
 ti:Sl Ti
 qu:Sl Int
 pg:Sl Bs
 sp:Nat→Sl Se
 wi:Sl nG
 bk:Sl Bs
 dc:lZ
 tr:DM
 lk:zY
 se:Be
 now:Int
 al:Sl Al
 M:Nat→Bool
 pe:Sl qs
 rc:Sl En
 ac:Sl Acc
 nw:Sl Db
structure dV (C:List Value) (s:bW):Prop where
 len:C.length=376
 one : ∀ v∈C,a7 v=true
 T : ∀ i,i<32→(C.drop (i*8)).take 8=fL (s.T i)
 D : ∀ i,i<11→C[256+i]? = some (.bool (s.D i))
 po:(C.drop 267).take 2 = [s.q.v,s.pr.v]
 ca:(C.drop 269).take 2 = [.int .i64 s.nx,s.cp.v]
 gr:C[271]? = some s.gr.v
 ti:C[272]? = some s.ti.v
 qu:C[273]? = some s.qu.v
 pg:(C.drop 274).take 1 = [s.pg.v]
 sp : ∀ i,i<32→C[275+i]? = some (s.sp i).v
 wi:C[307]? = some s.wi.v
 dk:(C.drop 308).take 10=s.bk.v::cE s.dc
 tr:(C.drop 318).take 4=rJ s.tr
 lk:(C.drop 322).take 22=gp s.lk
 se:(C.drop 344).take 21=iz s.se
 ck:(C.drop 365).take 2 = [.int .i64 s.now,s.al.v]
 iq:(C.drop 367).take 6 = [.bool (s.M 0),.bool (s.M 1),.bool (s.M 2),.bool (s.M 3),.bool (s.M 4),s.pe.v]
 rc:C[373]? = some s.rc.v
 ac:C[374]? = some s.ac.v
 nw:C[375]? = some s.nw.v
theorem dV.y9 {C:List Value} {s:bW} (h:dV C s):jf C s.T:=⟨h.len,h.T⟩
structure bW.Wide (s:bW):Prop where
 q:s.q.Ok
 pr:s.pr.Ok
 cp:s.cp.Ok
 gr:s.gr.Ok
 ti:s.ti.Ok
 qu:s.qu.Ok
 pg:s.pg.Ok
 sp : ∀ i,i<32→(s.sp i).Ok
 wi:s.wi.Ok
 bk:s.bk.Ok
 fh:s.lk.fh.Ok s.lk.fly.length
 fl:s.lk.fly.length≤140737488355328
 wh:s.lk.wh.Ok s.lk.wait.length
 wl:s.lk.wait.length≤140737488355328
 al:s.al.Ok
 pe:s.pe.Ok
 rc:s.rc.Ok
 ac:s.ac.Ok
 nw:s.nw.Ok
structure bW.Ok (s:bW):Prop extends s.Wide where
 gl:s.gr.l.length≤1000000
 sl : ∀ i,i<32→(s.sp i).l.length≤1000000
structure bW.Rows (s:bW) (w:World):Prop where
 q:s.q.At gv w
 pr:s.pr.At b_ w
 cp:s.cp.At bx w
 gr:s.gr.At bM w
 ti:s.ti.At cu w
 qu:s.qu.As bH w
 pg:s.pg.As du w
 sp : ∀ i,i<32→(s.sp i).At bT w
 wi:s.wi.At aW w
 bk:s.bk.As du w
 fl:ai w s.lk.fh.a (s.lk.fly.flatMap bX)
 wt:ai w s.lk.wh.a (s.lk.wait.map du)
 al:s.al.At gu w
 pe:s.pe.At cK w
 rc:s.rc.At wo w
 ac:s.ac.At rF w
theorem cellOf {C m:List Value} {k n:Nat} (h:(C.drop k).take n=m) {j:Nat} {v:Value} (hj:j<n) (hv:m[j]? = some v):C[k+j]? = some v:=by
 rw[← h,List.getElem?_take,if_pos hj,List.getElem?_drop] at hv
 exact hv
def eh (s:bW):Bool:=allI 32 (fun i=>allI (s.sp i).l.length (gM (s.sp i).l))&&(dy 96 s.pg.l&&(allI s.wi.l.length (gk s.wi.l)&&((dy 160 s.bk.l&&ed iZ true s.dc)&&(pM s.lk&&(oW s.se&&((allI s.al.l.length (kj s.now s.al.l)&&decide (0≤s.now∧s.now≤1099511627776∧s.al.l.length≤32)) &&
 ((allI s.pe.l.length (fX s.pe.l)&&(decide (s.pe.l.length≤32) && !s.M 0))&&((allI s.pr.l.length (kr s.pr.l)&&(allI s.q.l.length (jJ s.pr.l s.q.l)&&decide (s.q.l.length≤400)))&&((allI s.cp.l.length (dR s.nx s.cp.l)&&decide (s.cp.l.length≤400∧1≤s.nx∧s.nx≤1099511627776)) &&
 ((allI s.gr.l.length (i_ s.gr.l)&&(decide (s.gr.l.length≤200) && !((dS s.gr.l).any fun y=>false == y)))&&((allI s.ti.l.length (kp s.ti.l)&&decide (s.ti.l.length≤100))&&allI s.qu.l.length (kf s.qu.l))))))))))))
theorem vG (C:List Value) (s:bW) (hC:dV C s) (ho:s.Ok):af Tryz.prog 61 [.agg ⟨C⟩] s.Rows (fun v F=>v = .bool (eh s)):=by
 have h1:=lE s.pg.l s.pg.h ho.pg.h ho.pg.le
 have h2:=nn s.wi.l s.wi.h ho.wi.h ho.wi.le
 have h3:=pd s.bk.l s.bk.h ho.bk.h ho.bk.le s.dc
 have h4:=oE s.lk ho.fh ho.fl ho.wh ho.wl
 have h5:=lM s.se
 have h6:=m_ s.now s.al.l s.al.h ho.al.h ho.al.le
 have h7:=qA (s.M 0) (s.M 1) (s.M 2) (s.M 3) (s.M 4) s.pe.l s.pe.h ho.pe.h ho.pe.le
 have h8:=m5 s.q.l s.q.h ho.q.h ho.q.le s.pr.l s.pr.h ho.pr.h ho.pr.le
 have h9:=js s.nx s.cp.l s.cp.h ho.cp.h ho.cp.le
 have h10:=qD s.gr.l s.gr.h ho.gr.h ho.gl
 have h11:=qF s.ti.l s.ti.h ho.ti.h ho.ti.le
 have h12:=nj s.qu.l s.qu.h ho.qu.h ho.qu.le
 unfold eh
 generalize dy 96 s.pg.l=q1 at *
 generalize allI s.wi.l.length (gk s.wi.l)=q2 at *
 generalize (dy 160 s.bk.l&&ed iZ true s.dc)=q3 at *
 generalize pM s.lk=q4 at *
 generalize oW s.se=q5 at *
 generalize (allI s.al.l.length (kj s.now s.al.l)&&decide (0≤s.now∧s.now≤1099511627776∧s.al.l.length≤32))=q6 at *
 generalize (allI s.pe.l.length (fX s.pe.l)&&(decide (s.pe.l.length≤32) && !s.M 0))=q7 at *
 generalize (allI s.pr.l.length (kr s.pr.l)&&(allI s.q.l.length (jJ s.pr.l s.q.l)&&decide (s.q.l.length≤400)))=q8 at *
 generalize (allI s.cp.l.length (dR s.nx s.cp.l)&&decide (s.cp.l.length≤400∧1≤s.nx∧s.nx≤1099511627776))=q9 at *
 generalize (allI s.gr.l.length (i_ s.gr.l)&&(decide (s.gr.l.length≤200) && !((dS s.gr.l).any fun y=>false == y)))=q10 at *
 generalize (allI s.ti.l.length (kp s.ti.l)&&decide (s.ti.l.length≤100))=q11 at *
 generalize allI s.qu.l.length (kf s.qu.l)=q12 at *
 refine af.aG ae Tryz.func61 rfl (by decide) (n:=Tryz.f61.ntmps - 1) rfl rfl fun w0 av=>?_
 conv=>whnf
 repeat (refine aa.of ?_;conv=>whnf)
 refine ar.bQ fun br=>?_
 conv=>whnf
 repeat (refine aa.of ?_;conv=>whnf)
 refine ar.aj (ak.aQ ae rfl rfl (ad:=⟨br,0,none⟩) (k:=275) (L:=C) (m:=(C.drop 275).take 32) (aK.row (by simp[Value.cells])) rfl rfl (by rw[List.length_take,List.length_drop,hC.len];rfl) ?_)
 conv=>whnf
 repeat (refine aa.of ?_;conv=>whnf)
 refine az.loop ae (ι:=Nat) ([3,4]++List.range' 8 7) (fun x=>x≤32∧∀ j,j<x→allI (s.sp j).l.length (gM (s.sp j).l)=true)
  (fun x=>[(8,.v (.int .i64 (x:Int)))]) (fun _=>[]) (fun _=>⟨s.Rows,[(br,Row.c C)]⟩)
  (fun x=>32 - x) 0 ⟨Nat.zero_le _,fun j h=>by omega⟩ ?_ rfl (ax.of_le ⟨by simp[Value.cells],fun w hw=>hw⟩) fun i hi=>?_
 · conv=>whnf
   repeat (first | exact au.nil | refine au.any ?_ | refine au.cons ?_)
 obtain⟨hi,hall⟩:=hi
 conv=>whnf
 repeat (refine aa.of ?_;conv=>whnf)
 refine bF.split (fun hlt=>?_) (fun hlt=>?_)
 · have hlt':i<32:=by
    simp[ao] at hlt
    omega
   have h0:=mJ (s.sp i).l (s.sp i).h (ho.sp i hlt').h (ho.sp i hlt').le
   obtain⟨q0,heq0⟩ : ∃ q,q=allI (s.sp i).l.length (gM (s.sp i).l):=⟨_,rfl⟩
   rw[← heq0] at h0
   conv=>whnf
   repeat (refine aa.of ?_;conv=>whnf)
   refine ar.aj (ak.hJ ae (t:=93) rfl rfl rfl rfl rfl (l:=(C.drop 275).take 32) i rfl hlt' (v:=(s.sp i).h.v (s.sp i).l.length) (by rw[List.getElem?_take,if_pos hlt',List.getElem?_drop];exact hC.sp i hlt') ?_)
   conv=>whnf
   repeat (refine aa.of ?_;conv=>whnf)
   refine aw.val h0 (fun w hw=>hw.sp i hlt') (fun v D hv=>?_)
   subst hv
   cases q0
   · conv=>whnf
     repeat (refine aa.of ?_;conv=>whnf)
     exact⟨_,ax.refl _,by rw[aJ hlt' (by rw[← heq0]),Bool.false_and]⟩
   · conv=>whnf
     repeat (refine aa.of ?_;conv=>whnf)
     refine⟨i+1,⟨⟨hlt',fun j hj=>?_⟩,by dsimp only;omega⟩,?_,?_,ax.refl _⟩
     · rcases Nat.lt_or_eq_of_le (Nat.lt_succ_iff.1 hj) with h5 | h5
       · exact hall j h5
       · exact h5 ▸ heq0.symm
     · conv=>whnf
       refine⟨?_,rfl⟩
       repeat (first | exact au.nil | refine au.any ?_ | refine au.cons ?_ | refine au.eq (by rw[wrap_i64 (by omega)];rfl) ?_)
     · conv=>whnf
       exact trivial
 · have hie:i=32:=by
    simp[ao] at hlt
    omega
   subst hie
   rw[aV hall,Bool.true_and]
   clear hall
   repeat' (first
    | (refine ar.aj (ak.aQ ae rfl rfl (ad:=⟨br,0,none⟩) (k:=274) (L:=C) (m:=[s.pg.v]) (aK.row (by simp[Value.cells])) rfl hC.pg rfl ?_);conv=>whnf)
    | (refine ar.aj (ak.aH ae rfl rfl (ad:=⟨br,0,none⟩) (k:=307) (L:=C) (v:=s.wi.v) (aK.row (by simp[Value.cells])) (fun _=>rfl) hC.wi ?_);conv=>whnf)
    | (refine ar.aj (ak.aQ ae rfl rfl (ad:=⟨br,0,none⟩) (k:=308) (L:=C) (m:=s.bk.v::cE s.dc) (aK.row (by simp[Value.cells])) rfl hC.dk rfl ?_);conv=>whnf)
    | (refine ar.aj (ak.aQ ae rfl rfl (ad:=⟨br,0,none⟩) (k:=322) (L:=C) (m:=gp s.lk) (aK.row (by simp[Value.cells])) rfl hC.lk rfl ?_);conv=>whnf)
    | (refine ar.aj (ak.aQ ae rfl rfl (ad:=⟨br,0,none⟩) (k:=344) (L:=C) (m:=iz s.se) (aK.row (by simp[Value.cells])) rfl hC.se rfl ?_);conv=>whnf)
    | (refine ar.aj (ak.aQ ae rfl rfl (ad:=⟨br,0,none⟩) (k:=365) (L:=C) (m:=[.int .i64 s.now,s.al.v]) (aK.row (by simp[Value.cells])) rfl hC.ck rfl ?_);conv=>whnf)
    | (refine ar.aj (ak.aQ ae rfl rfl (ad:=⟨br,0,none⟩) (k:=367) (L:=C) (m:=[.bool (s.M 0),.bool (s.M 1),.bool (s.M 2),.bool (s.M 3),.bool (s.M 4),s.pe.v]) (aK.row (by simp[Value.cells])) rfl hC.iq rfl ?_);conv=>whnf)
    | (refine ar.aj (ak.aQ ae rfl rfl (ad:=⟨br,0,none⟩) (k:=267) (L:=C) (m:=[s.q.v,s.pr.v]) (aK.row (by simp[Value.cells])) rfl hC.po rfl ?_);conv=>whnf)
    | (refine ar.aj (ak.aQ ae rfl rfl (ad:=⟨br,0,none⟩) (k:=269) (L:=C) (m:=[.int .i64 s.nx,s.cp.v]) (aK.row (by simp[Value.cells])) rfl hC.ca rfl ?_);conv=>whnf)
    | (refine ar.aj (ak.aH ae rfl rfl (ad:=⟨br,0,none⟩) (k:=271) (L:=C) (v:=s.gr.v) (aK.row (by simp[Value.cells])) (fun _=>rfl) hC.gr ?_);conv=>whnf)
    | (refine ar.aj (ak.aH ae rfl rfl (ad:=⟨br,0,none⟩) (k:=272) (L:=C) (v:=s.ti.v) (aK.row (by simp[Value.cells])) (fun _=>rfl) hC.ti ?_);conv=>whnf)
    | (refine ar.aj (ak.aH ae rfl rfl (ad:=⟨br,0,none⟩) (k:=273) (L:=C) (v:=s.qu.v) (aK.row (by simp[Value.cells])) (fun _=>rfl) hC.qu ?_);conv=>whnf)
    | (refine aw.val h1 (fun w hw=>hw.pg) (fun v D hv=>?_);subst hv;cases q1<;>conv=>whnf)
    | (refine aw.val h2 (fun w hw=>hw.wi) (fun v D hv=>?_);subst hv;cases q2<;>conv=>whnf)
    | (refine aw.val h3 (fun w hw=>hw.bk) (fun v D hv=>?_);subst hv;cases q3<;>conv=>whnf)
    | (refine aw.val h4 (fun w hw=>⟨hw.fl,hw.wt⟩) (fun v D hv=>?_);subst hv;cases q4<;>conv=>whnf)
    | (refine aw.val h5 (fun w hw=>trivial) (fun v D hv=>?_);subst hv;cases q5<;>conv=>whnf)
    | (refine aw.val h6 (fun w hw=>hw.al) (fun v D hv=>?_);subst hv;cases q6<;>conv=>whnf)
    | (refine aw.val h7 (fun w hw=>hw.pe) (fun v D hv=>?_);subst hv;cases q7<;>conv=>whnf)
    | (refine aw.val h8 (fun w hw=>⟨hw.pr,hw.q⟩) (fun v D hv=>?_);subst hv;cases q8<;>conv=>whnf)
    | (refine aw.val h9 (fun w hw=>hw.cp) (fun v D hv=>?_);subst hv;cases q9<;>conv=>whnf)
    | (refine aw.val h10 (fun w hw=>hw.gr) (fun v D hv=>?_);subst hv;cases q10<;>conv=>whnf)
    | (refine aw.val h11 (fun w hw=>hw.ti) (fun v D hv=>?_);subst hv;cases q11<;>conv=>whnf)
    | (refine aw.val h12 (fun w hw=>hw.qu) (fun v D hv=>?_);subst hv;conv=>whnf))
   all_goals exact⟨_,ax.refl _,by first | rfl⟩
def lS (T:Nat→gU) (i:Nat):Bool:=fw (T i).kind 0
def iA (T:Nat→gU):Nat→Nat
 | 0=>0
 | i+1=>iA T i+(if lS T i then 1 else 0)
theorem wP (T:Nat→gU) : ∀ i,iA T i≤i
 | 0=>Nat.le_refl _
 | i+1=>by
  have:=wP T i
  unfold iA
  split<;>omega
def ot (T:Nat→gU) (q:List Int) (i:Nat):Bool:=!lS T i||q.any fun y=>(i:Int) == y
def jB (s:bW):Bool:=allI 32 (ot s.T s.qu.l)&&decide (s.qu.l.length=iA s.T 32)
theorem wy (C:List Value) (s:bW) (hC:dV C s) (ho:s.Ok):af Tryz.prog 64 [.agg ⟨C⟩] s.Rows (fun v F=>v = .bool (jB s)):=by
 refine af.aG ae Tryz.func64 rfl (by decide) (n:=Tryz.f64.ntmps - 1) rfl rfl fun w0 av=>?_
 conv=>whnf
 repeat (refine aa.of ?_;conv=>whnf)
 refine ar.bQ fun br=>?_
 conv=>whnf
 repeat (refine aa.of ?_;conv=>whnf)
 refine az.loop ae (ι:=Nat) (List.range' 3 17) (fun x=>x≤32∧∀ j,j<x→ot s.T s.qu.l j=true)
  (fun x=>[(3,.v (.int .i64 (iA s.T x:Int))),(5,.v (.int .i64 (x:Int)))]) (fun _=>[]) (fun _=>⟨s.Rows,[(br,Row.c C)]⟩)
  (fun x=>32 - x) 0 ⟨Nat.zero_le _,fun j h=>by omega⟩ ?_ rfl (ax.of_le ⟨by simp[Value.cells],fun w hw=>hw⟩) fun i hi=>?_
 · conv=>whnf
   repeat (first | exact au.nil | refine au.any ?_ | refine au.cons ?_)
 obtain⟨hi,hall⟩:=hi
 have hle:=wP s.T i
 conv=>whnf
 repeat (refine aa.of ?_;conv=>whnf)
 refine bF.split (fun hlt=>?_) (fun hlt=>?_)
 · have hlt':i<32:=by
    simp[ao] at hlt
    omega
   have h2:=gz C s.T hC.y9 i hlt'
   have h3:=rk (i:Int) s.qu.l s.qu.h ho.qu.h ho.qu.le
   have hnext:ot s.T s.qu.l i=true→∀ j,j<i+1→ot s.T s.qu.l j=true:=fun hs j hj=>by
    rcases Nat.lt_or_eq_of_le (Nat.lt_succ_iff.1 hj) with h5 | h5
    · exact hall j h5
    · exact h5 ▸ hs
   have hok:ot s.T s.qu.l i=(!lS s.T i||s.qu.l.any fun y=>(i:Int) == y):=rfl
   have hn:iA s.T (i+1)=iA s.T i+(if lS s.T i then 1 else 0):=rfl
   rw[show fw (s.T i).kind 0=lS s.T i from rfl] at h2
   generalize lS s.T i=q1 at *
   generalize (s.qu.l.any fun y=>(i:Int) == y)=q2 at *
   conv=>whnf
   repeat (refine aa.of ?_;conv=>whnf)
   refine ar.aj (ak.aQ ae rfl rfl (ad:=⟨br,0,none⟩) (k:=0) (L:=C) (m:=C) (aK.row (by simp[Value.cells])) rfl (by rw[List.drop_zero];exact List.take_of_length_le (by rw[hC.len];exact Nat.le_refl _)) hC.len ?_)
   conv=>whnf
   repeat (refine aa.of ?_;conv=>whnf)
   refine aw.val h2 (fun w hw=>trivial) (fun v D hv=>?_)
   subst hv
   cases q1
   · conv=>whnf
     repeat (refine aa.of ?_;conv=>whnf)
     refine⟨i+1,⟨⟨hlt',hnext (by rw[hok];rfl)⟩,by dsimp only;omega⟩,?_,?_,ax.refl _⟩
     · conv=>whnf
       refine⟨?_,rfl⟩
       repeat (first | exact au.nil | refine au.any ?_ | refine au.cons ?_ | refine au.eq (by rw[wrap_i64 (by omega)];rfl) ?_ | refine au.eq (by show _=SV.v (Value.int .i64 ((iA s.T (i+1):Nat):Int));rw[hn];rfl) ?_)
     · conv=>whnf
       exact trivial
   · conv=>whnf
     repeat (refine aa.of ?_;conv=>whnf)
     refine ar.aj (ak.aH ae rfl rfl (ad:=⟨br,0,none⟩) (k:=273) (L:=C) (v:=s.qu.v) (aK.row (by simp[Value.cells])) (fun _=>rfl) hC.qu ?_)
     conv=>whnf
     repeat (refine aa.of ?_;conv=>whnf)
     refine aw.val h3 (fun w hw=>hw.qu) (fun v D hv=>?_)
     subst hv
     cases q2
     · conv=>whnf
       repeat (refine aa.of ?_;conv=>whnf)
       exact⟨_,ax.refl _,by unfold jB;rw[aJ hlt' (by rw[hok];rfl),Bool.false_and]⟩
     · conv=>whnf
       repeat (refine aa.of ?_;conv=>whnf)
       refine⟨i+1,⟨⟨hlt',hnext (by rw[hok];rfl)⟩,by dsimp only;omega⟩,?_,?_,ax.refl _⟩
       · conv=>whnf
         refine⟨?_,rfl⟩
         repeat (first | exact au.nil | refine au.any ?_ | refine au.cons ?_ | refine au.eq (by rw[wrap_i64 (by omega)];rfl) ?_ | refine au.eq (by show _=SV.v (Value.int .i64 ((iA s.T (i+1):Nat):Int));rw[hn];first | rfl | (rw[wrap_i64 (by omega)];rfl)) ?_)
       · conv=>whnf
         exact trivial
 · have hie:i=32:=by
    simp[ao] at hlt
    omega
   subst hie
   unfold jB
   rw[aV hall,Bool.true_and]
   generalize iA s.T 32=n at *
   conv=>whnf
   repeat (refine aa.of ?_;conv=>whnf)
   refine ar.aj (ak.aH ae rfl rfl (ad:=⟨br,0,none⟩) (k:=273) (L:=C) (v:=s.qu.v) (aK.row (by simp[Value.cells])) (fun _=>rfl) hC.qu ?_)
   conv=>whnf
   repeat (refine aa.of ?_;conv=>whnf)
   exact⟨_,ax.refl _,by congr 1;rw[aA,Bool.eq_iff_iff];simp;omega⟩
end Go.Proofs.YtlnhdpjnlffaoaaGreatDoor
