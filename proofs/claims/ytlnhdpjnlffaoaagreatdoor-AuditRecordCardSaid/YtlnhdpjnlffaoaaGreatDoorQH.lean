/- Parts of the proof: AaV, AaW, AaX, AaY, AaZ, AbA, AbB, AbC, AbD. -/
import Derived.Test.YtlnhdpjnlffaoaaGreatDoorQF
import Derived.Test.YtlnhdpjnlffaoaaGreatDoorQG
namespace Go.Proofs.YtlnhdpjnlffaoaaGreatDoor
open Go Go.Sx
set_option maxRecDepth 100000
set_option maxHeartbeats 4000000
set_option linter.unusedVariables false
set_option linter.unusedSimpArgs false
def eI (l:List Cp) (o:Int) (r:Rt):Bool:=l.any fun x=>bD x.owner o&&jO x.r r
theorem jd (nx:Int) (l:List Cp) (h:Hd) (hh:h.Ok l.length) (hl:l.length≤140737488355328) (o:Int) (r:Rt) :
 ah Tryz.prog 123 [.agg ⟨[.int .i64 nx,h.v l.length]⟩,.int .i64 o,.agg ⟨uT r⟩] (fun w=>af w h.a (l.flatMap bB)) (fun v F=>v = .bool (eI l o r)):=by
 have hg:=fun(b1 b2:Nat)=>tz bB (fun _=>rfl) 199 (fun w=>af w (some ⟨b1,0,none⟩) [.int .i64 o]∧af w (some ⟨b2,0,none⟩) (uT r)) (fun x=>bD x.owner o&&jO x.r r) (.pointer (some ⟨b1,0,none⟩)) (.pointer (some ⟨b2,0,none⟩)) l h hh hl (fun e _=>pc e b1 b2 o r)
 unfold eI
 generalize (l.any fun x=>bD x.owner o&&jO x.r r)=q1 at *
 refine ah.aK ae Tryz.func123 rfl (by decide) (n:=Tryz.f123.ntmps - 3) rfl rfl fun w0 av=>?_
 conv=>whnf
 repeat (refine aa.of ?_;conv=>whnf)
 intro b1
 conv=>whnf
 repeat (refine aa.of ?_;conv=>whnf)
 intro b2
 conv=>whnf
 repeat (refine aa.of ?_;conv=>whnf)
 intro b3
 conv=>whnf
 repeat (refine aa.of ?_;conv=>whnf)
 refine aw.look (hg b2 b3) ((Loc.row _ _).and ((Loc.row _ _).and (Loc.row _ _))) (fun w hst=>⟨hst.now,aG.box 1 rfl (by simp) rfl w hst,aG.box 2 rfl (by simp) rfl w hst⟩) ?_
 conv=>whnf
 repeat (refine aa.of ?_;conv=>whnf)
 exact⟨_,ao.refl _,rfl⟩
deriving instance DecidableEq for Rt
def rO (l:List Cp):Nat→Int→Option Rt
 | 0,_=>none
 | i+1,id=>if l[i]!.id=id then some l[i]!.r else rO l i id
def xZ (l:List Cp):Nat→Int×Rt→Bool
 | 0,_=>false
 | i+1,k=>if (l[i]!.owner,l[i]!.r)=k then true else xZ l i k
def ee (l:List Cp):Nat→Int
 | 0=>0
 | i+1=>l[i]!.id
def fc (nx:Int) (l:List Cp) (j:Nat):Bool:=
 decide (ee l j<l[j]!.id)&&(decide (l[j]!.id<nx)&&(zD l[j]!.r&&(decide (0≤l[j]!.owner∧l[j]!.owner<32)&&(!xZ l j (l[j]!.owner,l[j]!.r) &&
  (if l[j]!.parent=0 then decide (l[j]!.owner=0) else match rO l j l[j]!.parent with
   | none=>false
   | some r=>jO r l[j]!.r)))))
def pj (r:Rt):Value:=.agg ⟨uT r⟩
def gk (k:Int×Rt):Value:=cR [k.1,k.2.ty,k.2.peer,k.2.code]
theorem um (a b:Int×Rt) (h:gk a=gk b):a=b:=by
 have:=mH h
 obtain⟨a1,a2,a3,a4⟩:=a
 obtain⟨b1,b2,b3,b4⟩:=b
 simp at this
 obtain⟨rfl,rfl,rfl,rfl⟩:=this
 rfl
theorem vu (a b:Int) (h:bI a=bI b):a=b:=by
 unfold bI at h
 injection h
theorem oP {l:List Cp} : ∀ {i:Nat},(∀ j,j<i→ee l j<l[j]!.id)→∀ {id:Int},ee l i<id→rO l i id=none
 | 0,_,_,_=>rfl
 | i+1,h,id,hid=>by
  have h1:=h i (by omega)
  have h2:l[i]!.id<id:=hid
  unfold rO
  rw[if_neg (by omega)]
  exact oP (fun j hj=>h j (by omega)) (by omega)
theorem jq {nx:Int} {l:List Cp} {j:Nat} (h:fc nx l j=true):ee l j<l[j]!.id:=by
 unfold fc at h
 simp only[Bool.and_eq_true,decide_eq_true_eq] at h
 exact h.1
theorem gX (nx:Int) (l:List Cp) (h:Hd) (hh:h.Ok l.length) (hl:l.length≤140737488355328) :
 ah Tryz.prog 111 [.agg ⟨[.int .i64 nx,h.v l.length]⟩] (fun w=>af w h.a (l.flatMap bB)) (fun v F=>v = .bool (allI l.length (fc nx l)&&decide (l.length≤400∧1≤nx∧nx≤1099511627776))):=by
 refine ah.aK ae Tryz.func111 rfl (by decide) (n:=Tryz.f111.ntmps - 1) rfl rfl fun w0 av=>?_
 conv=>whnf
 repeat (refine aa.of ?_;conv=>whnf)
 intro b0
 conv=>whnf
 repeat (refine aa.of ?_;conv=>whnf)
 refine ar.l_ fun m1=>?_
 conv=>whnf
 repeat (refine aa.of ?_;conv=>whnf)
 refine ar.l_ fun m2=>?_
 conv=>whnf
 repeat (refine aa.of ?_;conv=>whnf)
 refine az.loop ae (ι:=Nat×iJ×iJ) ([5,7,8,9,10]++List.range' 16 81) (fun x=>x.1≤l.length∧(∀ j,j<x.1→fc nx l j=true)∧gb bI x.2.1 (fun id=>(rO l x.1 id).map pj)∧gb gk x.2.2 (fun k=>if xZ l x.1 k then some (.bool true) else none))
  (fun x=>[(5,.v (.int .i64 (ee l x.1))),(16,.v (.int .i64 (x.1:Int)))]) (fun _=>[[.int .i64 nx,h.v l.length]]) (fun x=>⟨fun w=>af w h.a (l.flatMap bB),[(m1,Row.m (bX x.2.1) x.2.1.length),(m2,Row.m (bX x.2.2) x.2.2.length)]⟩)
  (fun x=>l.length - x.1) (0,[],[]) ⟨Nat.zero_le _,fun j h=>by omega,gb.empty vu fun a=>rfl,gb.empty um fun a=>rfl⟩ ?_ rfl (ao.refl _) fun x hx=>?_
 · conv=>whnf
   repeat (first | exact ax.nil | refine ax.any ?_ | refine ax.cons ?_)
 obtain⟨i,kv1,kv2⟩:=x
 obtain⟨hi,hall,hm1,hm2⟩:=hx
 dsimp only at hi hall hm1 hm2 ⊢
 conv=>whnf
 repeat (refine aa.of ?_;conv=>whnf)
 refine bU.split (fun hlt=>?_) (fun hlt=>?_)
 · have hlt':i<l.length:=by
    simp only[au,decide_eq_true_eq] at hlt
    omega
   have hpr:=nq l[i].r
   obtain⟨q1,heq1⟩ : ∃ x,x=zD l[i].r:=⟨_,rfl⟩
   rw[← heq1] at hpr
   conv=>whnf
   repeat (refine aa.of ?_;conv=>whnf)
   refine ar.aj (ak.index ae (t:=82) rfl rfl rfl (by omega) (by omega) hh.nil fun ad had=>?_)
   conv=>whnf
   repeat (refine aa.of ?_;conv=>whnf)
   refine ar.aj (ak.aW ae (t:=161) rfl rfl (ad:=ad) (k:=i*6) (L:=l.flatMap bB) (m:=bB l[i]) (.fact fun w hw=>had ▸ hw) (by simp) (bj (cf:=bB) (z:=6) (fun _=>rfl) hlt') rfl ?_)
   conv=>whnf
   repeat (refine aa.of ?_;conv=>whnf)
   intro b7
   conv=>whnf
   repeat (refine aa.of ?_;conv=>whnf)
   intro b8
   conv=>whnf
   repeat (refine aa.of ?_;conv=>whnf)
   have hok:fc nx l i=(decide (ee l i<l[i].id)&&(decide (l[i].id<nx)&&(zD l[i].r&&(decide (0≤l[i].owner∧l[i].owner<32)&&(!xZ l i (l[i].owner,l[i].r) &&
    (if l[i].parent=0 then decide (l[i].owner=0) else match rO l i l[i].parent with
     | none=>false
     | some r=>jO r l[i].r)))))):=by
    unfold fc
    rw[cv hlt']
   have hnext:fc nx l i=true→∀ j,j<i+1→fc nx l j=true:=fun hs j hj=>by
    rcases Nat.lt_or_eq_of_le (Nat.lt_succ_iff.1 hj) with h5 | h5
    · exact hall j h5
    · exact h5 ▸ hs
   have hk2 : ∀ k:Int×Rt,jj 4 (gk k):=fun k=>⟨_,rfl,rfl⟩
   have hk1 : ∀ k:Int,MapKept.IsKey (.int .i64) (bI k):=fun k=>rfl
   rcases hse:xZ l i (l[i].owner,l[i].r) with _ | _<;>rcases hro:rO l i l[i].parent with _ | r
   · repeat' (first
      | (refine And.intro ?_ ?_<;>conv=>whnf)
      | (refine an.same rfl ?_;conv=>whnf)
      | (refine an.row rfl ?_;conv=>whnf)
      | (refine an.call rfl ?_;conv=>whnf)
      | (refine aS.of ?_;conv=>whnf)
      | (refine aa.of ?_;conv=>whnf)
      | (refine aw.val hpr (fun w hw=>trivial) (fun v D hv=>?_);subst hv;conv=>whnf)
      | (refine ar.aj (ak.jT ae (t:=323) rfl rfl rfl ic (k:=gk (l[i].owner,l[i].r)) (z:=.bool false) (dL.row (by simp)) (hk2 _) (hm2.all hk2) (hm2.no (by rw[hse];rfl)) (by kernel_rfl) ?_);rw[if_neg (by decide)];conv=>whnf)
      | (refine ar.aj (ak.qM ae (t:=322) rfl rfl rfl (d:=.int .i64) rfl (k:=bI l[i].parent) (z:=pj ⟨0,0,0⟩) (dL.row (by simp)) (hk1 _) (hm1.all hk1) (hm1.no (by rw[hro];rfl)) (by kernel_rfl) ?_);rw[if_pos rfl];conv=>whnf)
      | (intro b9;conv=>whnf)
      | (split<;>conv=>whnf)
      | (refine an.mk ?_ ?_;(focus (first | exact ao.refl _ | exact ao.left _ _ | exact ao.of_le ⟨List.sublist_append_left _ _,fun w h=>h⟩ | exact ao.of_le ⟨List.Sublist.refl _,fun w h=>h.1⟩));conv=>whnf))
     all_goals try (refine⟨_,ao.refl _,?_⟩;rw[aY hlt' (by rw[hok,hse,hro,← heq1];clear hpr hall hm1 hm2 hnext hok;cases q1<;>simp_all [aI,aJ,au,aM,aO,jO]<;>(try omega))];first | done | rfl)
     all_goals
      have hgood:fc nx l i=true:=by rw[hok,hse,hro,← heq1];clear hpr hall hm1 hm2 hnext hok;cases q1<;>simp_all [aI,aJ,au,aM,aO,jO]<;>(try omega)
      have hfr:rO l i l[i].id=none:=oP (fun j hj=>jq (hall j hj)) (by have:=jq hgood;rwa [cv hlt'] at this)
      have hli:ee l (i+1)=l[i].id:=cv hlt' ▸ rfl
      have hn1:=hm1.push (a:=l[i].id) (v:=pj l[i].r) (g:=fun id=>(rO l (i+1) id).map pj) (by rw[hfr];rfl) (fun b=>by
       conv=>lhs;unfold rO
       rw[cv hlt']
       split<;>rfl)
      have hn2:=hm2.push (a:=(l[i].owner,l[i].r)) (v:=.bool true) (g:=fun k=>if xZ l (i+1) k then some (.bool true) else none) (by rw[hse];rfl) (fun b=>by
       conv=>lhs;unfold xZ
       rw[cv hlt']
       by_cases hb:(l[i].owner,l[i].r)=b
       · rw[if_pos hb,if_pos hb];rfl
       · rw[if_neg hb,if_neg hb])
      refine az.draw ae mixed rfl rfl ?_
      conv=>whnf
      repeat' (first
       | (refine And.intro ?_ ?_<;>conv=>whnf)
       | (refine an.same rfl ?_;conv=>whnf)
       | (refine an.row rfl ?_;conv=>whnf)
       | (refine an.call rfl ?_;conv=>whnf)
       | (refine aS.of ?_;conv=>whnf)
       | (refine aa.of ?_;conv=>whnf)
       | (refine aN.we ae (t:=322) rfl rfl rfl (d:=.int .i64) rfl (r1:=[]) (r2:=[(m2,Row.m (bX kv2) kv2.length)]) (b:=m1) (l:=kv1) (k:=bI l[i].id) (v:=pj l[i].r) (hk1 _) (hm1.all hk1) (hm1.no (by rw[hfr];rfl)) ?_;conv=>whnf)
       | (refine aN.oo ae (t:=323) rfl rfl rfl ic (r1:=[(m1,Row.m (bX (kv1 ++ [(bI l[i].id,pj l[i].r)])) (kv1 ++ [(bI l[i].id,pj l[i].r)]).length)]) (r2:=[]) (b:=m2) (l:=kv2) (k:=gk (l[i].owner,l[i].r)) (v:=.bool true) (hk2 _) (hm2.all hk2) (hm2.no (by rw[hse];rfl)) ?_;conv=>whnf)
       | (refine an.mk ?_ ?_;(focus (first | exact ao.refl _ | exact ao.left _ _ | exact ao.of_le ⟨List.sublist_append_left _ _,fun w h=>h⟩ | exact ao.of_le ⟨List.Sublist.refl _,fun w h=>h.1⟩));conv=>whnf))
      all_goals
       refine⟨(i+1,kv1 ++ [(bI l[i].id,pj l[i].r)],kv2 ++ [(gk (l[i].owner,l[i].r),.bool true)]),⟨⟨hlt',hnext hgood,hn1,hn2⟩,by dsimp only;omega⟩,?_,?_,ao.refl _⟩
       · conv=>whnf
         refine⟨?_,rfl⟩
         repeat (first | exact ax.nil | refine ax.any ?_ | refine ax.cons ?_ | refine ax.eq (by rw[wrap_i64 (by omega)];rfl) ?_ | refine ax.eq (by show SV.v (Value.int .i64 (ee l (i+1)))=_;rw[hli]) ?_ | refine ax.eq (by show _=SV.v (Value.int .i64 (ee l (i+1)));rw[hli]) ?_)
       · conv=>whnf
         exact⟨⟨rfl,rfl⟩,trivial⟩
   · repeat' (first
      | (refine And.intro ?_ ?_<;>conv=>whnf)
      | (refine an.same rfl ?_;conv=>whnf)
      | (refine an.row rfl ?_;conv=>whnf)
      | (refine an.call rfl ?_;conv=>whnf)
      | (refine aS.of ?_;conv=>whnf)
      | (refine aa.of ?_;conv=>whnf)
      | (refine aw.val hpr (fun w hw=>trivial) (fun v D hv=>?_);subst hv;conv=>whnf)
      | (refine ar.aj (ak.jT ae (t:=323) rfl rfl rfl ic (k:=gk (l[i].owner,l[i].r)) (z:=.bool false) (dL.row (by simp)) (hk2 _) (hm2.all hk2) (hm2.no (by rw[hse];rfl)) (by kernel_rfl) ?_);rw[if_neg (by decide)];conv=>whnf)
      | (refine ar.aj (ak.qj ae (t:=322) rfl rfl rfl (d:=.int .i64) rfl (k:=bI l[i].parent) (v:=pj r) (dL.row (by simp)) (hk1 _) (hm1.all hk1) (fun i2 u2 h2=>hm1.val (by rw[hro];rfl) i2 u2 h2) (hm1.has _ _ (by rw[hro];rfl)) ?_);rw[if_pos rfl];conv=>whnf)
      | (refine ar.aj (ak.yd oF (by kernel_rfl) (xs:=[r.ty,r.peer,r.code]) (ys:=[l[i].r.ty,l[i].r.peer,l[i].r.code]) rfl rfl ?_);conv=>whnf)
      | (intro b9;conv=>whnf)
      | (split<;>conv=>whnf)
      | (refine an.mk ?_ ?_;(focus (first | exact ao.refl _ | exact ao.left _ _ | exact ao.of_le ⟨List.sublist_append_left _ _,fun w h=>h⟩ | exact ao.of_le ⟨List.Sublist.refl _,fun w h=>h.1⟩));conv=>whnf))
     all_goals try (refine⟨_,ao.refl _,?_⟩;rw[aY hlt' (by rw[hok,hse,hro,← heq1];clear hpr hall hm1 hm2 hnext hok;cases q1<;>simp_all [aI,aJ,au,aM,aO,jO]<;>(try omega))];first | done | rfl)
     all_goals
      have hgood:fc nx l i=true:=by rw[hok,hse,hro,← heq1];clear hpr hall hm1 hm2 hnext hok;cases q1<;>simp_all [aI,aJ,au,aM,aO,jO]<;>(try omega)
      have hfr:rO l i l[i].id=none:=oP (fun j hj=>jq (hall j hj)) (by have:=jq hgood;rwa [cv hlt'] at this)
      have hli:ee l (i+1)=l[i].id:=cv hlt' ▸ rfl
      have hn1:=hm1.push (a:=l[i].id) (v:=pj l[i].r) (g:=fun id=>(rO l (i+1) id).map pj) (by rw[hfr];rfl) (fun b=>by
       conv=>lhs;unfold rO
       rw[cv hlt']
       split<;>rfl)
      have hn2:=hm2.push (a:=(l[i].owner,l[i].r)) (v:=.bool true) (g:=fun k=>if xZ l (i+1) k then some (.bool true) else none) (by rw[hse];rfl) (fun b=>by
       conv=>lhs;unfold xZ
       rw[cv hlt']
       by_cases hb:(l[i].owner,l[i].r)=b
       · rw[if_pos hb,if_pos hb];rfl
       · rw[if_neg hb,if_neg hb])
      refine az.draw ae mixed rfl rfl ?_
      conv=>whnf
      repeat' (first
       | (refine And.intro ?_ ?_<;>conv=>whnf)
       | (refine an.same rfl ?_;conv=>whnf)
       | (refine an.row rfl ?_;conv=>whnf)
       | (refine an.call rfl ?_;conv=>whnf)
       | (refine aS.of ?_;conv=>whnf)
       | (refine aa.of ?_;conv=>whnf)
       | (refine aN.we ae (t:=322) rfl rfl rfl (d:=.int .i64) rfl (r1:=[]) (r2:=[(m2,Row.m (bX kv2) kv2.length)]) (b:=m1) (l:=kv1) (k:=bI l[i].id) (v:=pj l[i].r) (hk1 _) (hm1.all hk1) (hm1.no (by rw[hfr];rfl)) ?_;conv=>whnf)
       | (refine aN.oo ae (t:=323) rfl rfl rfl ic (r1:=[(m1,Row.m (bX (kv1 ++ [(bI l[i].id,pj l[i].r)])) (kv1 ++ [(bI l[i].id,pj l[i].r)]).length)]) (r2:=[]) (b:=m2) (l:=kv2) (k:=gk (l[i].owner,l[i].r)) (v:=.bool true) (hk2 _) (hm2.all hk2) (hm2.no (by rw[hse];rfl)) ?_;conv=>whnf)
       | (refine an.mk ?_ ?_;(focus (first | exact ao.refl _ | exact ao.left _ _ | exact ao.of_le ⟨List.sublist_append_left _ _,fun w h=>h⟩ | exact ao.of_le ⟨List.Sublist.refl _,fun w h=>h.1⟩));conv=>whnf))
      all_goals
       refine⟨(i+1,kv1 ++ [(bI l[i].id,pj l[i].r)],kv2 ++ [(gk (l[i].owner,l[i].r),.bool true)]),⟨⟨hlt',hnext hgood,hn1,hn2⟩,by dsimp only;omega⟩,?_,?_,ao.refl _⟩
       · conv=>whnf
         refine⟨?_,rfl⟩
         repeat (first | exact ax.nil | refine ax.any ?_ | refine ax.cons ?_ | refine ax.eq (by rw[wrap_i64 (by omega)];rfl) ?_ | refine ax.eq (by show SV.v (Value.int .i64 (ee l (i+1)))=_;rw[hli]) ?_ | refine ax.eq (by show _=SV.v (Value.int .i64 (ee l (i+1)));rw[hli]) ?_)
       · conv=>whnf
         exact⟨⟨rfl,rfl⟩,trivial⟩
   · repeat' (first
      | (refine And.intro ?_ ?_<;>conv=>whnf)
      | (refine an.same rfl ?_;conv=>whnf)
      | (refine an.row rfl ?_;conv=>whnf)
      | (refine an.call rfl ?_;conv=>whnf)
      | (refine aS.of ?_;conv=>whnf)
      | (refine aa.of ?_;conv=>whnf)
      | (refine aw.val hpr (fun w hw=>trivial) (fun v D hv=>?_);subst hv;conv=>whnf)
      | (refine ar.aj (ak.jD ae (t:=323) rfl rfl rfl ic (k:=gk (l[i].owner,l[i].r)) (v:=.bool true) (dL.row (by simp)) (hk2 _) (hm2.all hk2) (fun i2 u2 h2=>hm2.val (by rw[hse];rfl) i2 u2 h2) (hm2.has _ _ (by rw[hse];rfl)) ?_);rw[if_neg (by decide)];conv=>whnf)
      | (refine ar.aj (ak.qM ae (t:=322) rfl rfl rfl (d:=.int .i64) rfl (k:=bI l[i].parent) (z:=pj ⟨0,0,0⟩) (dL.row (by simp)) (hk1 _) (hm1.all hk1) (hm1.no (by rw[hro];rfl)) (by kernel_rfl) ?_);rw[if_pos rfl];conv=>whnf)
      | (intro b9;conv=>whnf)
      | (split<;>conv=>whnf)
      | (refine an.mk ?_ ?_;(focus (first | exact ao.refl _ | exact ao.left _ _ | exact ao.of_le ⟨List.sublist_append_left _ _,fun w h=>h⟩ | exact ao.of_le ⟨List.Sublist.refl _,fun w h=>h.1⟩));conv=>whnf))
     all_goals try (refine⟨_,ao.refl _,?_⟩;rw[aY hlt' (by rw[hok,hse,hro,← heq1];clear hpr hall hm1 hm2 hnext hok;cases q1<;>simp_all [aI,aJ,au,aM,aO,jO]<;>(try omega))];first | done | rfl)
   · repeat' (first
      | (refine And.intro ?_ ?_<;>conv=>whnf)
      | (refine an.same rfl ?_;conv=>whnf)
      | (refine an.row rfl ?_;conv=>whnf)
      | (refine an.call rfl ?_;conv=>whnf)
      | (refine aS.of ?_;conv=>whnf)
      | (refine aa.of ?_;conv=>whnf)
      | (refine aw.val hpr (fun w hw=>trivial) (fun v D hv=>?_);subst hv;conv=>whnf)
      | (refine ar.aj (ak.jD ae (t:=323) rfl rfl rfl ic (k:=gk (l[i].owner,l[i].r)) (v:=.bool true) (dL.row (by simp)) (hk2 _) (hm2.all hk2) (fun i2 u2 h2=>hm2.val (by rw[hse];rfl) i2 u2 h2) (hm2.has _ _ (by rw[hse];rfl)) ?_);rw[if_neg (by decide)];conv=>whnf)
      | (refine ar.aj (ak.qj ae (t:=322) rfl rfl rfl (d:=.int .i64) rfl (k:=bI l[i].parent) (v:=pj r) (dL.row (by simp)) (hk1 _) (hm1.all hk1) (fun i2 u2 h2=>hm1.val (by rw[hro];rfl) i2 u2 h2) (hm1.has _ _ (by rw[hro];rfl)) ?_);rw[if_pos rfl];conv=>whnf)
      | (refine ar.aj (ak.yd oF (by kernel_rfl) (xs:=[r.ty,r.peer,r.code]) (ys:=[l[i].r.ty,l[i].r.peer,l[i].r.code]) rfl rfl ?_);conv=>whnf)
      | (intro b9;conv=>whnf)
      | (split<;>conv=>whnf)
      | (refine an.mk ?_ ?_;(focus (first | exact ao.refl _ | exact ao.left _ _ | exact ao.of_le ⟨List.sublist_append_left _ _,fun w h=>h⟩ | exact ao.of_le ⟨List.Sublist.refl _,fun w h=>h.1⟩));conv=>whnf))
     all_goals try (refine⟨_,ao.refl _,?_⟩;rw[aY hlt' (by rw[hok,hse,hro,← heq1];clear hpr hall hm1 hm2 hnext hok;cases q1<;>simp_all [aI,aJ,au,aM,aO,jO]<;>(try omega))];first | done | rfl)
 · have hie:i=l.length:=by
    simp only[au,decide_eq_false_iff_not] at hlt
    omega
   subst hie
   conv=>whnf
   repeat (refine aa.of ?_;conv=>whnf)
   refine⟨_,ao.refl _,?_⟩
   rw[bJ hall,Bool.true_and]
   congr 1
   rw[Bool.eq_iff_iff]
   simp[aI,aJ,and_assoc]
   try omega
structure gz where
 kind:Int
 st:Int
 call:Int
 stp:Bool
 cls:Bool
 dn:Bool
 res:Int
 data:Bs
instance:Inhabited gz:=⟨⟨0,0,0,false,false,false,0,default⟩⟩
def eR (x:gz):List Value:=[.int .i64 x.kind,.int .i64 x.st,.int .i64 x.call,.bool x.stp,.bool x.cls,.bool x.dn,.int .i64 x.res,de x.data]
theorem jk (a:Int):ah Tryz.prog 115 [.int .i64 a] (fun _=>True) (fun v F=>v = .bool (decide (1≤a∧a≤10))):=by
 refine ah.aK ae Tryz.func115 rfl (by decide) (n:=Tryz.f115.ntmps - 1) rfl rfl fun w0 av=>?_
 conv=>whnf
 repeat (refine aa.of ?_;conv=>whnf)
 exact⟨_,ao.refl _,by congr 1;rw[Bool.eq_iff_iff];simp[aJ,au,aI,aH,aM,aO,and_assoc];try omega⟩
theorem er (a:Int):ah Tryz.prog 116 [.int .i64 a] (fun _=>True) (fun v F=>v = .bool (decide (16≤a∧a<32))):=by
 refine ah.aK ae Tryz.func116 rfl (by decide) (n:=Tryz.f116.ntmps - 1) rfl rfl fun w0 av=>?_
 conv=>whnf
 repeat (refine aa.of ?_;conv=>whnf)
 exact⟨_,ao.refl _,by congr 1;rw[Bool.eq_iff_iff];simp[aJ,au,aI,aH,aM,aO,and_assoc];try omega⟩
def gY (x:gz):Bool:=bD x.st 0&&(bD x.call 0&&(!x.stp&&(!x.cls&&(!x.dn&&(bD x.res 0&&decide (x.data.n=0))))))
theorem oq (x:gz):ah Tryz.prog 119 [.agg ⟨eR x⟩] (fun _=>True) (fun v F=>v = .bool (gY x)):=by
 unfold gY
 refine ah.aK ae Tryz.func119 rfl (by decide) (n:=Tryz.f119.ntmps - 1) rfl rfl fun w0 av=>?_
 conv=>whnf
 repeat (refine aa.of ?_;conv=>whnf)
 intro b1
 conv=>whnf
 repeat (refine aa.of ?_;conv=>whnf)
 repeat' (first
  | (refine And.intro ?_ ?_<;>conv=>whnf)
  | (refine an.same rfl ?_;conv=>whnf)
  | (refine an.row rfl ?_;conv=>whnf)
  | (refine an.call rfl ?_;conv=>whnf)
  | (refine aS.of ?_;conv=>whnf)
  | (refine aa.of ?_;conv=>whnf)
  | (split<;>conv=>whnf)
  | (refine an.mk ?_ ?_;(focus (first | exact ao.refl _ | exact ao.left _ _ | exact ao.of_le ⟨List.sublist_append_left _ _,fun w h=>h⟩ | exact ao.of_le ⟨List.Sublist.refl _,fun w h=>h.1⟩));conv=>whnf))
 all_goals refine⟨_,ao.refl _,?_⟩
 all_goals first | rfl | (congr 1;done) | (congr 1;rw[Bool.eq_iff_iff];simp_all [aJ,au,aI,aH,aM,aO,and_assoc];done) | (congr 1;rw[Bool.eq_iff_iff];simp_all [aJ,au,aI,aH,aM,aO,and_assoc];omega) | (congr 1;rw[Bool.eq_iff_iff];(try cases q1)<;>(try cases q2)<;>(try cases q3)<;>(try simp_all [aJ,au,aI,aH,aM,aO,and_assoc])<;>(try omega);done)
def rH (x:gz):Bool:=if x.dn then decide (x.data.n≤128) else (bD x.res 0&&decide (x.data.n=0))
def ew (x:gz):Bool:=if bD x.st 1 then (if ly x.call 0||(hJ x.call 20||x.dn) then false else rH x) else if bD x.st 0||bD x.st 2 then (if kz x.call 0||(bD x.st 2&&kz x.kind 3) then false else rH x) else false
theorem ma (x:gz):ah Tryz.prog 118 [.agg ⟨eR x⟩] (fun _=>True) (fun v F=>v = .bool (ew x)):=by
 unfold ew rH
 refine ah.aK ae Tryz.func118 rfl (by decide) (n:=Tryz.f118.ntmps - 1) rfl rfl fun w0 av=>?_
 conv=>whnf
 repeat (refine aa.of ?_;conv=>whnf)
 intro b1
 conv=>whnf
 repeat (refine aa.of ?_;conv=>whnf)
 repeat' (first
  | (refine And.intro ?_ ?_<;>conv=>whnf)
  | (refine an.same rfl ?_;conv=>whnf)
  | (refine an.row rfl ?_;conv=>whnf)
  | (refine an.call rfl ?_;conv=>whnf)
  | (refine aS.of ?_;conv=>whnf)
  | (refine aa.of ?_;conv=>whnf)
  | (refine bU.split (fun h=>?_) (fun h=>?_)<;>conv=>whnf)
  | (split<;>conv=>whnf)
  | (refine an.mk ?_ ?_;(focus (first | exact ao.refl _ | exact ao.left _ _ | exact ao.of_le ⟨List.sublist_append_left _ _,fun w h=>h⟩ | exact ao.of_le ⟨List.Sublist.refl _,fun w h=>h.1⟩));conv=>whnf))
 all_goals refine⟨_,ao.refl _,?_⟩
 all_goals first | rfl | (congr 1;done) | (congr 1;rw[Bool.eq_iff_iff];simp_all [aJ,au,aI,aH,aM,aO,and_assoc];done) | (congr 1;rw[Bool.eq_iff_iff];simp_all [aJ,au,aI,aH,aM,aO,and_assoc];omega) | (congr 1;rw[Bool.eq_iff_iff];(try cases q1)<;>(try cases q2)<;>(try cases q3)<;>(try simp_all [aJ,au,aI,aH,aM,aO,and_assoc])<;>(try omega);done)
structure gE (C:List Value) (T:Nat→gz):Prop where
 len:C.length=376
 at' : ∀ i,i<32→(C.drop (i*8)).take 8=eR (T i)
theorem gE.get {C:List Value} {T:Nat→gz} (h:gE C T) {i:Nat} (hi:i<32):((C.take 256).drop (i*8)).take 8=eR (T i):=by
 rw[← h.at' i hi]
 apply List.ext_getElem?
 intro j
 rw[List.getElem?_take,List.getElem?_take,List.getElem?_drop,List.getElem?_drop,List.getElem?_take]
 by_cases hj:j<8
 · rw[if_pos hj,if_pos hj,if_pos (by omega)]
 · rw[if_neg hj,if_neg hj]
def kindOk (T:Nat→gz) (i:Nat):Bool:=decide ((1≤i∧i≤10→(T i).kind=1)∧(16≤i→(T i).kind=0∨(T i).kind=2∨(T i).kind=3)∧(¬ (1≤i∧i≤10)→¬ 16≤i→(T i).kind=0))
theorem sF (C:List Value) (T:Nat→gz) (hT:gE C T):ah Tryz.prog 62 [.agg ⟨C⟩] (fun _=>True) (fun v F=>v = .bool (allI 32 (kindOk T))):=by
 refine ah.aK ae Tryz.func62 rfl (by decide) (n:=Tryz.f62.ntmps - 1) rfl rfl fun w0 av=>?_
 conv=>whnf
 repeat (refine aa.of ?_;conv=>whnf)
 refine ar.cA fun br=>?_
 conv=>whnf
 repeat (refine aa.of ?_;conv=>whnf)
 refine ar.aj (ak.aW ae rfl rfl (ad:=⟨br,0,none⟩) (k:=0) (L:=C) (m:=C.take 256) (aG.row (by simp[Value.cells])) rfl (by rw[List.drop_zero]) (by rw[List.length_take,hT.len];rfl) ?_)
 conv=>whnf
 repeat (refine aa.of ?_;conv=>whnf)
 refine az.loop ae (ι:=Nat) ([3,4,5]++List.range' 9 30) (fun x=>x≤32∧∀ j,j<x→kindOk T j=true)
  (fun x=>[(9,.v (.int .i64 (x:Int)))]) (fun _=>[]) (fun _=>⟨fun w=>True,[(br,Row.c C)]⟩)
  (fun x=>32 - x) 0 ⟨Nat.zero_le _,fun j h=>by omega⟩ ?_ rfl (ao.of_le ⟨by simp[Value.cells],fun w hw=>hw⟩) fun i hi=>?_
 · conv=>whnf
   repeat (first | exact ax.nil | refine ax.any ?_ | refine ax.cons ?_)
 obtain⟨hi,hall⟩:=hi
 conv=>whnf
 repeat (refine aa.of ?_;conv=>whnf)
 refine bU.split (fun hlt=>?_) (fun hlt=>?_)
 · have hlt':i<32:=by
    simp[au] at hlt
    omega
   have h1:=jk (i:Int)
   have h2:=er (i:Int)
   have hok:kindOk T i=decide ((1≤i∧i≤10→(T i).kind=1)∧(16≤i→(T i).kind=0∨(T i).kind=2∨(T i).kind=3)∧(¬ (1≤i∧i≤10)→¬ 16≤i→(T i).kind=0)):=rfl
   have hnext:kindOk T i=true→∀ j,j<i+1→kindOk T j=true:=fun hs j hj=>by
    rcases Nat.lt_or_eq_of_le (Nat.lt_succ_iff.1 hj) with h5 | h5
    · exact hall j h5
    · exact h5 ▸ hs
   obtain⟨q1,heq1⟩ : ∃ q,q=decide (1≤(i:Int)∧(i:Int)≤10):=⟨_,rfl⟩
   obtain⟨q2,heq2⟩ : ∃ q,q=decide (16≤(i:Int)∧(i:Int)<32):=⟨_,rfl⟩
   rw[← heq1] at h1
   rw[← heq2] at h2
   conv=>whnf
   repeat (refine aa.of ?_;conv=>whnf)
   refine ar.aj (ak.nz ae (t:=78) rfl rfl rfl rfl (l:=C.take 256) (m:=eR (T i)) i rfl hlt' (hT.get hlt') (by rw[List.length_take,hT.len];show i*8+8≤_;omega) ?_)
   conv=>whnf
   repeat (refine aa.of ?_;conv=>whnf)
   intro b4
   conv=>whnf
   repeat (refine aa.of ?_;conv=>whnf)
   repeat' (first
    | (refine And.intro ?_ ?_<;>conv=>whnf)
    | (refine an.same rfl ?_;conv=>whnf)
    | (refine an.row rfl ?_;conv=>whnf)
    | (refine an.call rfl ?_;conv=>whnf)
    | (refine aS.of ?_;conv=>whnf)
    | (refine aa.of ?_;conv=>whnf)
    | (refine aw.val h1 (fun w hw=>trivial) (fun v D hv=>?_);subst hv;conv=>whnf)
    | (refine aw.val h2 (fun w hw=>trivial) (fun v D hv=>?_);subst hv;conv=>whnf)
    | (refine bU.split (fun h=>?_) (fun h=>?_)<;>conv=>whnf)
    | (split<;>conv=>whnf)
    | (refine an.mk ?_ ?_;(focus (first | exact ao.refl _ | exact ao.left _ _ | exact ao.of_le ⟨List.sublist_append_left _ _,fun w h=>h⟩ | exact ao.of_le ⟨List.Sublist.refl _,fun w h=>h.1⟩));conv=>whnf))
   all_goals first
    | (refine⟨_,ao.refl _,?_⟩;rw[aY hlt' (by rw[hok];((try subst heq1);(try subst heq2);(try subst heq3);simp only[cond_true,cond_false,au,aI,aH,aJ,aM,aO,decide_eq_true_eq,decide_eq_false_iff_not,beq_iff_eq,bne_iff_ne,ne_eq,beq_eq_false_iff_ne,bne_eq_false_iff_eq,Bool.not_eq_true,Bool.not_eq_false,Bool.and_true,Bool.true_and,Bool.and_false,Bool.false_and,Bool.or_true,Bool.or_false,Bool.true_or,Bool.false_or,Bool.not_eq_true',Bool.not_eq_false',Bool.not_true,Bool.not_false,Bool.or_eq_true,Bool.or_eq_false_iff,and_imp] at *;first | omega | (simp_all;done) | (simp_all;omega)))];first | done | rfl)
    | (
     refine⟨i+1,⟨⟨hlt',hnext (by rw[hok];((try subst heq1);(try subst heq2);(try subst heq3);simp only[cond_true,cond_false,au,aI,aH,aJ,aM,aO,decide_eq_true_eq,decide_eq_false_iff_not,beq_iff_eq,bne_iff_ne,ne_eq,beq_eq_false_iff_ne,bne_eq_false_iff_eq,Bool.not_eq_true,Bool.not_eq_false,Bool.and_true,Bool.true_and,Bool.and_false,Bool.false_and,Bool.or_true,Bool.or_false,Bool.true_or,Bool.false_or,Bool.not_eq_true',Bool.not_eq_false',Bool.not_true,Bool.not_false,Bool.or_eq_true,Bool.or_eq_false_iff,and_imp] at *;first | omega | (simp_all;done) | (simp_all;omega)))⟩,by dsimp only;omega⟩,?_,?_,ao.refl _⟩;(conv=>whnf);refine⟨?_,rfl⟩;repeat (first | exact ax.nil | refine ax.any ?_ | refine ax.cons ?_ | refine ax.eq (by rw[wrap_i64 (by omega)];rfl) ?_)
     (conv=>whnf);exact trivial)
 · have hie:i=32:=by
    simp[au] at hlt
    omega
   subst hie
   conv=>whnf
   repeat (refine aa.of ?_;conv=>whnf)
   exact⟨_,ao.refl _,by rw[bJ hall]⟩
theorem gE.kind {C:List Value} {T:Nat→gz} (h:gE C T) {i:Nat} (hi:i<32):C[i*8]? = some (.int .i64 (T i).kind):=by
 have:=congrArg (·[0]?) (h.at' i hi)
 simpa [eR] using this
theorem fb (C:List Value) (T:Nat→gz) (hT:gE C T) (i:Nat) (hi:i<32):ah Tryz.prog 117 [.agg ⟨C⟩,.int .i64 (i:Int)] (fun _=>True) (fun v F=>v = .bool (kz (T i).kind 0)):=by
 refine ah.aK ae Tryz.func117 rfl (by decide) (n:=Tryz.f117.ntmps - 2) rfl rfl fun w0 av=>?_
 conv=>whnf
 repeat (refine aa.of ?_;conv=>whnf)
 refine ar.cA fun br=>?_
 conv=>whnf
 repeat (refine aa.of ?_;conv=>whnf)
 refine ar.aj (ak.bP ae (t:=78) rfl rfl rfl i rfl hi rfl ?_)
 conv=>whnf
 repeat (refine aa.of ?_;conv=>whnf)
 refine ar.aj (ak.aF ae rfl rfl (ad:=⟨br,0,none⟩) (k:=i*8) (L:=C) (v:=.int .i64 (T i).kind) (aG.row (by simp[Value.cells])) (fun _=>by simp[Addr.add]) (hT.kind hi) ?_)
 conv=>whnf
 repeat (refine aa.of ?_;conv=>whnf)
 exact⟨_,ao.refl _,rfl⟩
def iN (T:Nat→gz) (i:Nat):Bool:=if 16≤i∧(T i).kind≠0 then ew (T i) else gY (T i)
theorem n9 (C:List Value) (T:Nat→gz) (hT:gE C T) (hone : ∀ v∈C,aU v=true):ah Tryz.prog 63 [.agg ⟨C⟩] (fun _=>True) (fun v F=>v = .bool (allI 32 (iN T))):=by
 refine ah.aK ae Tryz.func63 rfl (by decide) (n:=Tryz.f63.ntmps - 1) rfl rfl fun w0 av=>?_
 conv=>whnf
 repeat (refine aa.of ?_;conv=>whnf)
 refine ar.cA fun br=>?_
 conv=>whnf
 repeat (refine aa.of ?_;conv=>whnf)
 refine ar.aj (ak.aW ae rfl rfl (ad:=⟨br,0,none⟩) (k:=0) (L:=C) (m:=C.take 256) (aG.row (by simp[Value.cells])) rfl (by rw[List.drop_zero]) (by rw[List.length_take,hT.len];rfl) ?_)
 conv=>whnf
 repeat (refine aa.of ?_;conv=>whnf)
 refine az.loop ae (ι:=Nat) ([3,4]++List.range' 8 18) (fun x=>x≤32∧∀ j,j<x→iN T j=true)
  (fun x=>[(8,.v (.int .i64 (x:Int)))]) (fun _=>[]) (fun _=>⟨fun w=>True,[(br,Row.c C)]⟩)
  (fun x=>32 - x) 0 ⟨Nat.zero_le _,fun j h=>by omega⟩ ?_ rfl (ao.of_le ⟨by simp[Value.cells],fun w hw=>hw⟩) fun i hi=>?_
 · conv=>whnf
   repeat (first | exact ax.nil | refine ax.any ?_ | refine ax.cons ?_)
 obtain⟨hi,hall⟩:=hi
 conv=>whnf
 repeat (refine aa.of ?_;conv=>whnf)
 refine bU.split (fun hlt=>?_) (fun hlt=>?_)
 · have hlt':i<32:=by
    simp[au] at hlt
    omega
   have h2:=er (i:Int)
   have h3:=fb C T hT i hlt'
   have h4:=ma (T i)
   have h5:=oq (T i)
   have hnext:iN T i=true→∀ j,j<i+1→iN T j=true:=fun hs j hj=>by
    rcases Nat.lt_or_eq_of_le (Nat.lt_succ_iff.1 hj) with h5 | h5
    · exact hall j h5
    · exact h5 ▸ hs
   have hok:iN T i=(if 16≤i∧(T i).kind≠0 then ew (T i) else gY (T i)):=rfl
   obtain⟨q1,heq1⟩ : ∃ q,q=decide (16≤(i:Int)∧(i:Int)<32):=⟨_,rfl⟩
   obtain⟨q2,heq2⟩ : ∃ q,q=kz (T i).kind 0:=⟨_,rfl⟩
   rw[← heq1] at h2
   rw[← heq2] at h3
   have hc:(q1&&q2)=decide (16≤i∧(T i).kind≠0):=by
    rw[heq1,heq2,Bool.eq_iff_iff]
    simp[aO]
    omega
   have hok2:iN T i=(if (q1&&q2)=true then ew (T i) else gY (T i)):=by
    rw[hc,hok]
    by_cases hx:16≤i∧(T i).kind≠0
    · rw[if_pos hx,decide_eq_true hx,if_pos rfl]
    · rw[if_neg hx,decide_eq_false hx,if_neg (by decide)]
   clear hok hc heq1 heq2
   generalize ew (T i)=q3 at *
   generalize gY (T i)=q4 at *
   conv=>whnf
   repeat (refine aa.of ?_;conv=>whnf)
   refine ar.aj (ak.nz ae (t:=78) rfl rfl rfl rfl (l:=C.take 256) (m:=eR (T i)) i rfl hlt' (hT.get hlt') (by rw[List.length_take,hT.len];show i*8+8≤_;omega) ?_)
   conv=>whnf
   repeat (refine aa.of ?_;conv=>whnf)
   intro b4
   conv=>whnf
   repeat (refine aa.of ?_;conv=>whnf)
   repeat' (first
    | (refine And.intro ?_ ?_<;>conv=>whnf)
    | (refine an.same rfl ?_;conv=>whnf)
    | (refine an.row rfl ?_;conv=>whnf)
    | (refine an.call rfl ?_;conv=>whnf)
    | (refine aS.of ?_;conv=>whnf)
    | (refine aa.of ?_;conv=>whnf)
    | (refine aw.val h2 (fun w hw=>trivial) (fun v D hv=>?_);subst hv;conv=>whnf)
    | (refine aw.val h3 (fun w hw=>trivial) (fun v D hv=>?_);subst hv;conv=>whnf)
    | (refine aw.val h4 (fun w hw=>trivial) (fun v D hv=>?_);subst hv;conv=>whnf)
    | (refine aw.val h5 (fun w hw=>trivial) (fun v D hv=>?_);subst hv;conv=>whnf)
    | (refine ar.aj (ak.aW ae rfl rfl (ad:=⟨br,0,none⟩) (k:=0) (L:=C) (m:=C) (aG.row (by simp[Value.cells])) rfl (by rw[List.drop_zero];exact List.take_of_length_le (by rw[hT.len];exact Nat.le_refl _)) hT.len ?_);conv=>whnf)
    | (cases q1<;>conv=>whnf)
    | (cases q2<;>conv=>whnf)
    | (cases q3<;>conv=>whnf)
    | (cases q4<;>conv=>whnf)
    | (refine an.mk ?_ ?_;(focus (first | exact ao.refl _ | exact ao.left _ _ | exact ao.of_le ⟨List.sublist_append_left _ _,fun w h=>h⟩ | exact ao.of_le ⟨List.Sublist.refl _,fun w h=>h.1⟩));conv=>whnf))
   all_goals first
    | (refine⟨_,ao.refl _,?_⟩;rw[aY hlt' (by rw[hok2];rfl)];done)
    | (
     refine⟨i+1,⟨⟨hlt',hnext (by rw[hok2];rfl)⟩,by dsimp only;omega⟩,?_,?_,ao.refl _⟩;(conv=>whnf);refine⟨?_,rfl⟩;repeat (first | exact ax.nil | refine ax.any ?_ | refine ax.cons ?_ | refine ax.eq (by rw[wrap_i64 (by omega)];rfl) ?_)
     (conv=>whnf);exact trivial)
 · have hie:i=32:=by
    simp[au] at hlt
    omega
   subst hie
   conv=>whnf
   repeat (refine aa.of ?_;conv=>whnf)
   exact⟨_,ao.refl _,by rw[bJ hall]⟩
def gO (D:Nat→Bool):Nat→Nat
 | 0=>0
 | i+1=>gO D i+(if D i then 1 else 0)
theorem pL (D:Nat→Bool) : ∀ i,gO D i≤i
 | 0=>Nat.le_refl _
 | i+1=>by
  have:=pL D i
  unfold gO
  split<;>omega
def oz (D:Nat→Bool):Bool:=decide (gO D 11≤1)&&(!D 0 && !D 1)
theorem tU (C:List Value) (D:Nat→Bool) (hl:C.length=376) (hD : ∀ i,i<11→C[256+i]? = some (.bool (D i))):ah Tryz.prog 71 [.agg ⟨C⟩] (fun _=>True) (fun v F=>v = .bool (oz D)):=by
 refine ah.aK ae Tryz.func71 rfl (by decide) (n:=Tryz.f71.ntmps - 1) rfl rfl fun w0 av=>?_
 conv=>whnf
 repeat (refine aa.of ?_;conv=>whnf)
 refine ar.cA fun br=>?_
 conv=>whnf
 repeat (refine aa.of ?_;conv=>whnf)
 refine ar.aj (ak.aW ae rfl rfl (ad:=⟨br,0,none⟩) (k:=256) (L:=C) (m:=(C.drop 256).take 11) (aG.row (by simp[Value.cells])) rfl rfl (by rw[List.length_take,List.length_drop,hl];rfl) ?_)
 conv=>whnf
 repeat (refine aa.of ?_;conv=>whnf)
 refine az.loop ae (ι:=Nat) ([3,5]++List.range' 9 7) (fun x=>x≤11)
  (fun x=>[(3,.v (.int .i64 (gO D x:Int))),(9,.v (.int .i64 (x:Int)))]) (fun _=>[]) (fun _=>⟨fun w=>True,[(br,Row.c C)]⟩)
  (fun x=>11 - x) 0 (Nat.zero_le _) ?_ rfl (ao.of_le ⟨by simp[Value.cells],fun w hw=>hw⟩) fun i hi=>?_
 · conv=>whnf
   repeat (first | exact ax.nil | refine ax.any ?_ | refine ax.cons ?_)
 have hle:=pL D i
 conv=>whnf
 repeat (refine aa.of ?_;conv=>whnf)
 refine bU.split (fun hlt=>?_) (fun hlt=>?_)
 · have hlt':i<11:=by
    simp[au] at hlt
    omega
   have hn:gO D (i+1)=gO D i+(if D i then 1 else 0):=rfl
   conv=>whnf
   repeat (refine aa.of ?_;conv=>whnf)
   refine ar.aj (ak.fu ae (t:=26) rfl rfl rfl rfl rfl (l:=(C.drop 256).take 11) i rfl hlt' (v:=.bool (D i)) (by rw[List.getElem?_take,if_pos hlt',List.getElem?_drop];exact hD i hlt') ?_)
   conv=>whnf
   repeat (refine aa.of ?_;conv=>whnf)
   generalize D i=q at *
   cases q
   all_goals
    conv=>whnf
    repeat (refine aa.of ?_;conv=>whnf)
    refine⟨i+1,⟨hlt',by dsimp only;omega⟩,?_,?_,ao.refl _⟩
    · conv=>whnf
      refine⟨?_,rfl⟩
      repeat (first | exact ax.nil | refine ax.any ?_ | refine ax.cons ?_ | refine ax.eq (by rw[wrap_i64 (by omega)];rfl) ?_ | refine ax.eq (by show SV.v (Value.int .i64 ((gO D (i+1):Nat):Int))=_;rw[hn];rfl) ?_ | refine ax.eq (by show _=SV.v (Value.int .i64 ((gO D (i+1):Nat):Int));rw[hn];first | rfl | (rw[wrap_i64 (by omega)];rfl)) ?_)
    · conv=>whnf
      exact trivial
 · have hie:i=11:=by
    simp[au] at hlt
    omega
   have hdo:oz D=(mX ((gO D i:Nat):Int) 1&&(!D 0 && !D 1)):=by
    rw[hie]
    unfold oz
    congr 1
    rw[aI,Bool.eq_iff_iff]
    simp
    omega
   have h0:=hD 0 (by decide)
   have h1:=hD 1 (by decide)
   rw[hdo]
   generalize gO D i=dn at *
   generalize D 0=e0 at *
   generalize D 1=e1 at *
   generalize hq:mX (dn:Int) 1=q
   conv=>whnf
   repeat (refine aa.of ?_;conv=>whnf)
   rw[hq]
   cases q<;>cases e0<;>cases e1
   all_goals
    conv=>whnf
    repeat (refine aa.of ?_;conv=>whnf)
    repeat' (first
     | (refine And.intro ?_ ?_<;>conv=>whnf)
     | (refine an.same rfl ?_;conv=>whnf)
     | (refine an.row rfl ?_;conv=>whnf)
     | (refine an.call rfl ?_;conv=>whnf)
     | (refine aS.of ?_;conv=>whnf)
     | (refine aa.of ?_;conv=>whnf)
     | (refine ar.aj (ak.bP ae (t:=26) rfl rfl rfl 0 rfl (by decide) rfl ?_);conv=>whnf)
     | (refine ar.aj (ak.bP ae (t:=26) rfl rfl rfl 1 rfl (by decide) rfl ?_);conv=>whnf)
     | (refine ar.aj (ak.aF ae rfl rfl (ad:=⟨br,0,none⟩) (k:=256) (L:=C) (v:=_) (aG.row (by simp[Value.cells])) (fun _=>rfl) h0 ?_);conv=>whnf)
     | (refine ar.aj (ak.aF ae rfl rfl (ad:=⟨br,0,none⟩) (k:=257) (L:=C) (v:=_) (aG.row (by simp[Value.cells])) (fun _=>rfl) h1 ?_);conv=>whnf)
     | (refine an.mk ?_ ?_;(focus (first | exact ao.refl _ | exact ao.left _ _ | exact ao.of_le ⟨List.sublist_append_left _ _,fun w h=>h⟩ | exact ao.of_le ⟨List.Sublist.refl _,fun w h=>h.1⟩));conv=>whnf))
   all_goals exact⟨_,ao.refl _,rfl⟩
def nA (n:Nat→Nat) (i:Nat):Bool:=decide (16≤i∨n i=0)
theorem pI (C:List Value) (S:Nat→Hd) (n:Nat→Nat) (hl:C.length=376) (hS : ∀ i,i<32→C[275+i]? = some ((S i).v (n i))):ah Tryz.prog 66 [.agg ⟨C⟩] (fun _=>True) (fun v F=>v = .bool (allI 32 (nA n))):=by
 refine ah.aK ae Tryz.func66 rfl (by decide) (n:=Tryz.f66.ntmps - 1) rfl rfl fun w0 av=>?_
 conv=>whnf
 repeat (refine aa.of ?_;conv=>whnf)
 refine ar.cA fun br=>?_
 conv=>whnf
 repeat (refine aa.of ?_;conv=>whnf)
 refine ar.aj (ak.aW ae rfl rfl (ad:=⟨br,0,none⟩) (k:=275) (L:=C) (m:=(C.drop 275).take 32) (aG.row (by simp[Value.cells])) rfl rfl (by rw[List.length_take,List.length_drop,hl];rfl) ?_)
 conv=>whnf
 repeat (refine aa.of ?_;conv=>whnf)
 refine az.loop ae (ι:=Nat) ([3,4]++List.range' 8 13) (fun x=>x≤32∧∀ j,j<x→nA n j=true)
  (fun x=>[(8,.v (.int .i64 (x:Int)))]) (fun _=>[]) (fun _=>⟨fun w=>True,[(br,Row.c C)]⟩)
  (fun x=>32 - x) 0 ⟨Nat.zero_le _,fun j h=>by omega⟩ ?_ rfl (ao.of_le ⟨by simp[Value.cells],fun w hw=>hw⟩) fun i hi=>?_
 · conv=>whnf
   repeat (first | exact ax.nil | refine ax.any ?_ | refine ax.cons ?_)
 obtain⟨hi,hall⟩:=hi
 conv=>whnf
 repeat (refine aa.of ?_;conv=>whnf)
 refine bU.split (fun hlt=>?_) (fun hlt=>?_)
 · have hlt':i<32:=by
    simp[au] at hlt
    omega
   have h2:=er (i:Int)
   have hok:nA n i=decide (16≤i∨n i=0):=rfl
   have hnext:nA n i=true→∀ j,j<i+1→nA n j=true:=fun hs j hj=>by
    rcases Nat.lt_or_eq_of_le (Nat.lt_succ_iff.1 hj) with h5 | h5
    · exact hall j h5
    · exact h5 ▸ hs
   obtain⟨q1,heq1⟩ : ∃ q,q=decide (16≤(i:Int)∧(i:Int)<32):=⟨_,rfl⟩
   rw[← heq1] at h2
   conv=>whnf
   repeat (refine aa.of ?_;conv=>whnf)
   refine ar.aj (ak.fu ae (t:=93) rfl rfl rfl rfl rfl (l:=(C.drop 275).take 32) i rfl hlt' (v:=(S i).v (n i)) (by rw[List.getElem?_take,if_pos hlt',List.getElem?_drop];exact hS i hlt') ?_)
   conv=>whnf
   repeat (refine aa.of ?_;conv=>whnf)
   repeat' (first
    | (refine And.intro ?_ ?_<;>conv=>whnf)
    | (refine an.same rfl ?_;conv=>whnf)
    | (refine an.row rfl ?_;conv=>whnf)
    | (refine an.call rfl ?_;conv=>whnf)
    | (refine aS.of ?_;conv=>whnf)
    | (refine aa.of ?_;conv=>whnf)
    | (refine aw.val h2 (fun w hw=>trivial) (fun v D hv=>?_);subst hv;conv=>whnf)
    | (split<;>conv=>whnf)
    | (refine an.mk ?_ ?_;(focus (first | exact ao.refl _ | exact ao.left _ _ | exact ao.of_le ⟨List.sublist_append_left _ _,fun w h=>h⟩ | exact ao.of_le ⟨List.Sublist.refl _,fun w h=>h.1⟩));conv=>whnf))
   all_goals first
    | (refine⟨_,ao.refl _,?_⟩;rw[aY hlt' (by rw[hok];((try subst heq1);(try subst heq2);(try subst heq3);simp only[cond_true,cond_false,au,aI,aH,aJ,aM,aO,decide_eq_true_eq,decide_eq_false_iff_not,beq_iff_eq,bne_iff_ne,ne_eq,beq_eq_false_iff_ne,bne_eq_false_iff_eq,Bool.not_eq_true,Bool.not_eq_false,Bool.and_true,Bool.true_and,Bool.and_false,Bool.false_and,Bool.or_true,Bool.or_false,Bool.true_or,Bool.false_or,Bool.not_eq_true',Bool.not_eq_false',Bool.not_true,Bool.not_false] at *;first | omega | (simp_all;done) | (simp_all;omega)))];first | done | rfl)
    | (
     refine⟨i+1,⟨⟨hlt',hnext (by rw[hok];((try subst heq1);(try subst heq2);(try subst heq3);simp only[cond_true,cond_false,au,aI,aH,aJ,aM,aO,decide_eq_true_eq,decide_eq_false_iff_not,beq_iff_eq,bne_iff_ne,ne_eq,beq_eq_false_iff_ne,bne_eq_false_iff_eq,Bool.not_eq_true,Bool.not_eq_false,Bool.and_true,Bool.true_and,Bool.and_false,Bool.false_and,Bool.or_true,Bool.or_false,Bool.true_or,Bool.false_or,Bool.not_eq_true',Bool.not_eq_false',Bool.not_true,Bool.not_false] at *;first | omega | (simp_all;done) | (simp_all;omega)))⟩,by dsimp only;omega⟩,?_,?_,ao.refl _⟩;(conv=>whnf);refine⟨?_,rfl⟩;repeat (first | exact ax.nil | refine ax.any ?_ | refine ax.cons ?_ | refine ax.eq (by rw[wrap_i64 (by omega)];rfl) ?_)
     (conv=>whnf);exact trivial)
 · have hie:i=32:=by
    simp[au] at hlt
    omega
   subst hie
   conv=>whnf
   repeat (refine aa.of ?_;conv=>whnf)
   exact⟨_,ao.refl _,by rw[bJ hall]⟩
structure Sl (α:Type) where
 h:Hd
 l:List α
instance {α:Type}:Inhabited (Sl α):=⟨⟨Hd.nil,[]⟩⟩
def Sl.v {α:Type} (x:Sl α):Value:=x.h.v x.l.length
structure Sl.Ok {α:Type} (x:Sl α):Prop where
 h:x.h.Ok x.l.length
 le:x.l.length≤140737488355328
def Sl.At {α:Type} (x:Sl α) (cf:α→List Value) (w:World):Prop:=af w x.h.a (x.l.flatMap cf)
def Sl.As {α:Type} (x:Sl α) (vf:α→Value) (w:World):Prop:=af w x.h.a (x.l.map vf)
structure z7 where
 tag:Int
 frame:Int
 w:Bool
 opn:Bool
def qU (x:z7):List Value:=[.int .i64 x.tag,.int .i64 x.frame,.bool x.w,.bool x.opn]
structure En where
 kind:Int
 task:Int
 call:Int
 a0:Int
 a1:Int
 a2:Int
 res:Int
 data:Bs
instance:Inhabited En:=⟨⟨0,0,0,0,0,0,0,default⟩⟩
def gn (x:En):List Value:=[.int .i64 x.kind,.int .i64 x.task,.int .i64 x.call,.int .i64 x.a0,.int .i64 x.a1,.int .i64 x.a2,.int .i64 x.res,de x.data]
structure Acc where
 task:Int
 dev:Int
 frame:Int
 frm:Int
 len:Int
 w:Bool
def wb (x:Acc):List Value:=[.int .i64 x.task,.int .i64 x.dev,.int .i64 x.frame,.int .i64 x.frm,.int .i64 x.len,.bool x.w]
structure zn where
 kind:Int
 task:Int
 other:Int
def aQ (x:zn):List Value:=[.int .i64 x.kind,.int .i64 x.task,.int .i64 x.other]
structure bQ where
 T:Nat→gz
 D:Nat→Bool
 q:Sl Mg
 pr:Sl Pr
 nx:Int
 cp:Sl Cp
 gr:Sl Gr
 ti:Sl Ti
 qu:Sl Int
 pg:Sl Bs
 sp:Nat→Sl Se
 wi:Sl pZ
 bk:Sl Bs
 dc:p_
 tr:z7
 lk:wL
 se:yb
 now:Int
 al:Sl Al
 M:Nat→Bool
 pe:Sl rf
 rc:Sl En
 ac:Sl Acc
 nw:Sl zn
structure dM (C:List Value) (s:bQ):Prop where
 len:C.length=376
 one : ∀ v∈C,aU v=true
 T : ∀ i,i<32→(C.drop (i*8)).take 8=eR (s.T i)
 D : ∀ i,i<11→C[256+i]? = some (.bool (s.D i))
 po:(C.drop 267).take 2 = [s.q.v,s.pr.v]
 ca:(C.drop 269).take 2 = [.int .i64 s.nx,s.cp.v]
 gr:C[271]? = some s.gr.v
 ti:C[272]? = some s.ti.v
 qu:C[273]? = some s.qu.v
 pg:(C.drop 274).take 1 = [s.pg.v]
 sp : ∀ i,i<32→C[275+i]? = some (s.sp i).v
 wi:C[307]? = some s.wi.v
 dk:(C.drop 308).take 10=s.bk.v::cG s.dc
 tr:(C.drop 318).take 4=qU s.tr
 lk:(C.drop 322).take 22=eQ s.lk
 se:(C.drop 344).take 21=gg s.se
 ck:(C.drop 365).take 2 = [.int .i64 s.now,s.al.v]
 iq:(C.drop 367).take 6 = [.bool (s.M 0),.bool (s.M 1),.bool (s.M 2),.bool (s.M 3),.bool (s.M 4),s.pe.v]
 rc:C[373]? = some s.rc.v
 ac:C[374]? = some s.ac.v
 nw:C[375]? = some s.nw.v
theorem dM.vR {C:List Value} {s:bQ} (h:dM C s):gE C s.T:=⟨h.len,h.T⟩
structure bQ.qd (s:bQ):Prop where
 q:s.q.Ok
 pr:s.pr.Ok
 cp:s.cp.Ok
 gr:s.gr.Ok
 ti:s.ti.Ok
 qu:s.qu.Ok
 pg:s.pg.Ok
 sp : ∀ i,i<32→(s.sp i).Ok
 wi:s.wi.Ok
 bk:s.bk.Ok
 fh:s.lk.fh.Ok s.lk.fly.length
 fl:s.lk.fly.length≤140737488355328
 wh:s.lk.wh.Ok s.lk.wait.length
 wl:s.lk.wait.length≤140737488355328
 al:s.al.Ok
 pe:s.pe.Ok
 rc:s.rc.Ok
 ac:s.ac.Ok
 nw:s.nw.Ok
structure bQ.Ok (s:bQ):Prop extends s.qd where
 gl:s.gr.l.length≤1000000
 sl : ∀ i,i<32→(s.sp i).l.length≤1000000
structure bQ.Rows (s:bQ) (w:World):Prop where
 q:s.q.At nS w
 pr:s.pr.At bW w
 cp:s.cp.At bB w
 gr:s.gr.At b_ w
 ti:s.ti.At cj w
 qu:s.qu.As bI w
 pg:s.pg.As de w
 sp : ∀ i,i<32→(s.sp i).At bL w
 wi:s.wi.At bd w
 bk:s.bk.As de w
 fl:af w s.lk.fh.a (s.lk.fly.flatMap bV)
 wt:af w s.lk.wh.a (s.lk.wait.map de)
 al:s.al.At fD w
 pe:s.pe.At cM w
 rc:s.rc.At gn w
 ac:s.ac.At wb w
theorem cellOf {C m:List Value} {k n:Nat} (h:(C.drop k).take n=m) {j:Nat} {v:Value} (hj:j<n) (hv:m[j]? = some v):C[k+j]? = some v:=by
 rw[← h,List.getElem?_take,if_pos hj,List.getElem?_drop] at hv
 exact hv
def jn (s:bQ):Bool:=allI 32 (fun i=>allI (s.sp i).l.length (n7 (s.sp i).l))&&(dT 96 s.pg.l&&(allI s.wi.l.length (kH s.wi.l)&&((dT 160 s.bk.l&&gv kT true s.dc)&&(tB s.lk&&(tO s.se&&((allI s.al.l.length (qc s.now s.al.l)&&decide (0≤s.now∧s.now≤1099511627776∧s.al.l.length≤32)) &&
 ((allI s.pe.l.length (kD s.pe.l)&&(decide (s.pe.l.length≤32) && !s.M 0))&&((allI s.pr.l.length (qG s.pr.l)&&(allI s.q.l.length (ni s.pr.l s.q.l)&&decide (s.q.l.length≤400)))&&((allI s.cp.l.length (fc s.nx s.cp.l)&&decide (s.cp.l.length≤400∧1≤s.nx∧s.nx≤1099511627776)) &&
 ((allI s.gr.l.length (qw s.gr.l)&&(decide (s.gr.l.length≤200) && !((iQ s.gr.l).any fun y=>false == y)))&&((allI s.ti.l.length (pn s.ti.l)&&decide (s.ti.l.length≤100))&&allI s.qu.l.length (qp s.qu.l))))))))))))
theorem sT (C:List Value) (s:bQ) (hC:dM C s) (ho:s.Ok):ah Tryz.prog 61 [.agg ⟨C⟩] s.Rows (fun v F=>v = .bool (jn s)):=by
 have h1:=j_ s.pg.l s.pg.h ho.pg.h ho.pg.le
 have h2:=k8 s.wi.l s.wi.h ho.wi.h ho.wi.le
 have h3:=mQ s.bk.l s.bk.h ho.bk.h ho.bk.le s.dc
 have h4:=mI s.lk ho.fh ho.fl ho.wh ho.wl
 have h5:=jB s.se
 have h6:=lu s.now s.al.l s.al.h ho.al.h ho.al.le
 have h7:=nt (s.M 0) (s.M 1) (s.M 2) (s.M 3) (s.M 4) s.pe.l s.pe.h ho.pe.h ho.pe.le
 have h8:=lr s.q.l s.q.h ho.q.h ho.q.le s.pr.l s.pr.h ho.pr.h ho.pr.le
 have h9:=gX s.nx s.cp.l s.cp.h ho.cp.h ho.cp.le
 have h10:=nj s.gr.l s.gr.h ho.gr.h ho.gl
 have h11:=m6 s.ti.l s.ti.h ho.ti.h ho.ti.le
 have h12:=lv s.qu.l s.qu.h ho.qu.h ho.qu.le
 unfold jn
 generalize dT 96 s.pg.l=q1 at *
 generalize allI s.wi.l.length (kH s.wi.l)=q2 at *
 generalize (dT 160 s.bk.l&&gv kT true s.dc)=q3 at *
 generalize tB s.lk=q4 at *
 generalize tO s.se=q5 at *
 generalize (allI s.al.l.length (qc s.now s.al.l)&&decide (0≤s.now∧s.now≤1099511627776∧s.al.l.length≤32))=q6 at *
 generalize (allI s.pe.l.length (kD s.pe.l)&&(decide (s.pe.l.length≤32) && !s.M 0))=q7 at *
 generalize (allI s.pr.l.length (qG s.pr.l)&&(allI s.q.l.length (ni s.pr.l s.q.l)&&decide (s.q.l.length≤400)))=q8 at *
 generalize (allI s.cp.l.length (fc s.nx s.cp.l)&&decide (s.cp.l.length≤400∧1≤s.nx∧s.nx≤1099511627776))=q9 at *
 generalize (allI s.gr.l.length (qw s.gr.l)&&(decide (s.gr.l.length≤200) && !((iQ s.gr.l).any fun y=>false == y)))=q10 at *
 generalize (allI s.ti.l.length (pn s.ti.l)&&decide (s.ti.l.length≤100))=q11 at *
 generalize allI s.qu.l.length (qp s.qu.l)=q12 at *
 refine ah.aK ae Tryz.func61 rfl (by decide) (n:=Tryz.f61.ntmps - 1) rfl rfl fun w0 av=>?_
 conv=>whnf
 repeat (refine aa.of ?_;conv=>whnf)
 refine ar.cA fun br=>?_
 conv=>whnf
 repeat (refine aa.of ?_;conv=>whnf)
 refine ar.aj (ak.aW ae rfl rfl (ad:=⟨br,0,none⟩) (k:=275) (L:=C) (m:=(C.drop 275).take 32) (aG.row (by simp[Value.cells])) rfl rfl (by rw[List.length_take,List.length_drop,hC.len];rfl) ?_)
 conv=>whnf
 repeat (refine aa.of ?_;conv=>whnf)
 refine az.loop ae (ι:=Nat) ([3,4]++List.range' 8 7) (fun x=>x≤32∧∀ j,j<x→allI (s.sp j).l.length (n7 (s.sp j).l)=true)
  (fun x=>[(8,.v (.int .i64 (x:Int)))]) (fun _=>[]) (fun _=>⟨s.Rows,[(br,Row.c C)]⟩)
  (fun x=>32 - x) 0 ⟨Nat.zero_le _,fun j h=>by omega⟩ ?_ rfl (ao.of_le ⟨by simp[Value.cells],fun w hw=>hw⟩) fun i hi=>?_
 · conv=>whnf
   repeat (first | exact ax.nil | refine ax.any ?_ | refine ax.cons ?_)
 obtain⟨hi,hall⟩:=hi
 conv=>whnf
 repeat (refine aa.of ?_;conv=>whnf)
 refine bU.split (fun hlt=>?_) (fun hlt=>?_)
 · have hlt':i<32:=by
    simp[au] at hlt
    omega
   have h0:=k5 (s.sp i).l (s.sp i).h (ho.sp i hlt').h (ho.sp i hlt').le
   obtain⟨q0,heq0⟩ : ∃ q,q=allI (s.sp i).l.length (n7 (s.sp i).l):=⟨_,rfl⟩
   rw[← heq0] at h0
   conv=>whnf
   repeat (refine aa.of ?_;conv=>whnf)
   refine ar.aj (ak.fu ae (t:=93) rfl rfl rfl rfl rfl (l:=(C.drop 275).take 32) i rfl hlt' (v:=(s.sp i).h.v (s.sp i).l.length) (by rw[List.getElem?_take,if_pos hlt',List.getElem?_drop];exact hC.sp i hlt') ?_)
   conv=>whnf
   repeat (refine aa.of ?_;conv=>whnf)
   refine aw.val h0 (fun w hw=>hw.sp i hlt') (fun v D hv=>?_)
   subst hv
   cases q0
   · conv=>whnf
     repeat (refine aa.of ?_;conv=>whnf)
     exact⟨_,ao.refl _,by rw[aY hlt' (by rw[← heq0]),Bool.false_and]⟩
   · conv=>whnf
     repeat (refine aa.of ?_;conv=>whnf)
     refine⟨i+1,⟨⟨hlt',fun j hj=>?_⟩,by dsimp only;omega⟩,?_,?_,ao.refl _⟩
     · rcases Nat.lt_or_eq_of_le (Nat.lt_succ_iff.1 hj) with h5 | h5
       · exact hall j h5
       · exact h5 ▸ heq0.symm
     · conv=>whnf
       refine⟨?_,rfl⟩
       repeat (first | exact ax.nil | refine ax.any ?_ | refine ax.cons ?_ | refine ax.eq (by rw[wrap_i64 (by omega)];rfl) ?_)
     · conv=>whnf
       exact trivial
 · have hie:i=32:=by
    simp[au] at hlt
    omega
   subst hie
   rw[bJ hall,Bool.true_and]
   clear hall
   repeat' (first
    | (refine And.intro ?_ ?_<;>conv=>whnf)
    | (refine an.same rfl ?_;conv=>whnf)
    | (refine an.row rfl ?_;conv=>whnf)
    | (refine an.call rfl ?_;conv=>whnf)
    | (refine aS.of ?_;conv=>whnf)
    | (refine aa.of ?_;conv=>whnf)
    | (refine ar.aj (ak.aW ae rfl rfl (ad:=⟨br,0,none⟩) (k:=274) (L:=C) (m:=[s.pg.v]) (aG.row (by simp[Value.cells])) rfl hC.pg rfl ?_);conv=>whnf)
    | (refine ar.aj (ak.aF ae rfl rfl (ad:=⟨br,0,none⟩) (k:=307) (L:=C) (v:=s.wi.v) (aG.row (by simp[Value.cells])) (fun _=>rfl) hC.wi ?_);conv=>whnf)
    | (refine ar.aj (ak.aW ae rfl rfl (ad:=⟨br,0,none⟩) (k:=308) (L:=C) (m:=s.bk.v::cG s.dc) (aG.row (by simp[Value.cells])) rfl hC.dk rfl ?_);conv=>whnf)
    | (refine ar.aj (ak.aW ae rfl rfl (ad:=⟨br,0,none⟩) (k:=322) (L:=C) (m:=eQ s.lk) (aG.row (by simp[Value.cells])) rfl hC.lk rfl ?_);conv=>whnf)
    | (refine ar.aj (ak.aW ae rfl rfl (ad:=⟨br,0,none⟩) (k:=344) (L:=C) (m:=gg s.se) (aG.row (by simp[Value.cells])) rfl hC.se rfl ?_);conv=>whnf)
    | (refine ar.aj (ak.aW ae rfl rfl (ad:=⟨br,0,none⟩) (k:=365) (L:=C) (m:=[.int .i64 s.now,s.al.v]) (aG.row (by simp[Value.cells])) rfl hC.ck rfl ?_);conv=>whnf)
    | (refine ar.aj (ak.aW ae rfl rfl (ad:=⟨br,0,none⟩) (k:=367) (L:=C) (m:=[.bool (s.M 0),.bool (s.M 1),.bool (s.M 2),.bool (s.M 3),.bool (s.M 4),s.pe.v]) (aG.row (by simp[Value.cells])) rfl hC.iq rfl ?_);conv=>whnf)
    | (refine ar.aj (ak.aW ae rfl rfl (ad:=⟨br,0,none⟩) (k:=267) (L:=C) (m:=[s.q.v,s.pr.v]) (aG.row (by simp[Value.cells])) rfl hC.po rfl ?_);conv=>whnf)
    | (refine ar.aj (ak.aW ae rfl rfl (ad:=⟨br,0,none⟩) (k:=269) (L:=C) (m:=[.int .i64 s.nx,s.cp.v]) (aG.row (by simp[Value.cells])) rfl hC.ca rfl ?_);conv=>whnf)
    | (refine ar.aj (ak.aF ae rfl rfl (ad:=⟨br,0,none⟩) (k:=271) (L:=C) (v:=s.gr.v) (aG.row (by simp[Value.cells])) (fun _=>rfl) hC.gr ?_);conv=>whnf)
    | (refine ar.aj (ak.aF ae rfl rfl (ad:=⟨br,0,none⟩) (k:=272) (L:=C) (v:=s.ti.v) (aG.row (by simp[Value.cells])) (fun _=>rfl) hC.ti ?_);conv=>whnf)
    | (refine ar.aj (ak.aF ae rfl rfl (ad:=⟨br,0,none⟩) (k:=273) (L:=C) (v:=s.qu.v) (aG.row (by simp[Value.cells])) (fun _=>rfl) hC.qu ?_);conv=>whnf)
    | (refine aw.val h1 (fun w hw=>hw.pg) (fun v D hv=>?_);subst hv;cases q1<;>conv=>whnf)
    | (refine aw.val h2 (fun w hw=>hw.wi) (fun v D hv=>?_);subst hv;cases q2<;>conv=>whnf)
    | (refine aw.val h3 (fun w hw=>hw.bk) (fun v D hv=>?_);subst hv;cases q3<;>conv=>whnf)
    | (refine aw.val h4 (fun w hw=>⟨hw.fl,hw.wt⟩) (fun v D hv=>?_);subst hv;cases q4<;>conv=>whnf)
    | (refine aw.val h5 (fun w hw=>trivial) (fun v D hv=>?_);subst hv;cases q5<;>conv=>whnf)
    | (refine aw.val h6 (fun w hw=>hw.al) (fun v D hv=>?_);subst hv;cases q6<;>conv=>whnf)
    | (refine aw.val h7 (fun w hw=>hw.pe) (fun v D hv=>?_);subst hv;cases q7<;>conv=>whnf)
    | (refine aw.val h8 (fun w hw=>⟨hw.pr,hw.q⟩) (fun v D hv=>?_);subst hv;cases q8<;>conv=>whnf)
    | (refine aw.val h9 (fun w hw=>hw.cp) (fun v D hv=>?_);subst hv;cases q9<;>conv=>whnf)
    | (refine aw.val h10 (fun w hw=>hw.gr) (fun v D hv=>?_);subst hv;cases q10<;>conv=>whnf)
    | (refine aw.val h11 (fun w hw=>hw.ti) (fun v D hv=>?_);subst hv;cases q11<;>conv=>whnf)
    | (refine aw.val h12 (fun w hw=>hw.qu) (fun v D hv=>?_);subst hv;conv=>whnf)
    | (refine an.mk ?_ ?_;(focus (first | exact ao.refl _ | exact ao.left _ _ | exact ao.of_le ⟨List.sublist_append_left _ _,fun w h=>h⟩ | exact ao.of_le ⟨List.Sublist.refl _,fun w h=>h.1⟩));conv=>whnf))
   all_goals exact⟨_,ao.refl _,by first | rfl | (congr 1;simp;done) | (cases q12<;>rfl)⟩
def tI (T:Nat→gz) (i:Nat):Bool:=kz (T i).kind 0
def k4 (T:Nat→gz):Nat→Nat
 | 0=>0
 | i+1=>k4 T i+(if tI T i then 1 else 0)
theorem tc (T:Nat→gz) : ∀ i,k4 T i≤i
 | 0=>Nat.le_refl _
 | i+1=>by
  have:=tc T i
  unfold k4
  split<;>omega
def u7 (T:Nat→gz) (q:List Int) (i:Nat):Bool:=!tI T i||q.any fun y=>(i:Int) == y
def lJ (s:bQ):Bool:=allI 32 (u7 s.T s.qu.l)&&decide (s.qu.l.length=k4 s.T 32)
theorem rV (C:List Value) (s:bQ) (hC:dM C s) (ho:s.Ok):ah Tryz.prog 64 [.agg ⟨C⟩] s.Rows (fun v F=>v = .bool (lJ s)):=by
 refine ah.aK ae Tryz.func64 rfl (by decide) (n:=Tryz.f64.ntmps - 1) rfl rfl fun w0 av=>?_
 conv=>whnf
 repeat (refine aa.of ?_;conv=>whnf)
 refine ar.cA fun br=>?_
 conv=>whnf
 repeat (refine aa.of ?_;conv=>whnf)
 refine az.loop ae (ι:=Nat) (List.range' 3 17) (fun x=>x≤32∧∀ j,j<x→u7 s.T s.qu.l j=true)
  (fun x=>[(3,.v (.int .i64 (k4 s.T x:Int))),(5,.v (.int .i64 (x:Int)))]) (fun _=>[]) (fun _=>⟨s.Rows,[(br,Row.c C)]⟩)
  (fun x=>32 - x) 0 ⟨Nat.zero_le _,fun j h=>by omega⟩ ?_ rfl (ao.of_le ⟨by simp[Value.cells],fun w hw=>hw⟩) fun i hi=>?_
 · conv=>whnf
   repeat (first | exact ax.nil | refine ax.any ?_ | refine ax.cons ?_)
 obtain⟨hi,hall⟩:=hi
 have hle:=tc s.T i
 conv=>whnf
 repeat (refine aa.of ?_;conv=>whnf)
 refine bU.split (fun hlt=>?_) (fun hlt=>?_)
 · have hlt':i<32:=by
    simp[au] at hlt
    omega
   have h2:=fb C s.T hC.vR i hlt'
   have h3:=nJ (i:Int) s.qu.l s.qu.h ho.qu.h ho.qu.le
   have hnext:u7 s.T s.qu.l i=true→∀ j,j<i+1→u7 s.T s.qu.l j=true:=fun hs j hj=>by
    rcases Nat.lt_or_eq_of_le (Nat.lt_succ_iff.1 hj) with h5 | h5
    · exact hall j h5
    · exact h5 ▸ hs
   have hok:u7 s.T s.qu.l i=(!tI s.T i||s.qu.l.any fun y=>(i:Int) == y):=rfl
   have hn:k4 s.T (i+1)=k4 s.T i+(if tI s.T i then 1 else 0):=rfl
   rw[show kz (s.T i).kind 0=tI s.T i from rfl] at h2
   generalize tI s.T i=q1 at *
   generalize (s.qu.l.any fun y=>(i:Int) == y)=q2 at *
   conv=>whnf
   repeat (refine aa.of ?_;conv=>whnf)
   refine ar.aj (ak.aW ae rfl rfl (ad:=⟨br,0,none⟩) (k:=0) (L:=C) (m:=C) (aG.row (by simp[Value.cells])) rfl (by rw[List.drop_zero];exact List.take_of_length_le (by rw[hC.len];exact Nat.le_refl _)) hC.len ?_)
   conv=>whnf
   repeat (refine aa.of ?_;conv=>whnf)
   refine aw.val h2 (fun w hw=>trivial) (fun v D hv=>?_)
   subst hv
   cases q1
   · conv=>whnf
     repeat (refine aa.of ?_;conv=>whnf)
     refine⟨i+1,⟨⟨hlt',hnext (by rw[hok];rfl)⟩,by dsimp only;omega⟩,?_,?_,ao.refl _⟩
     · conv=>whnf
       refine⟨?_,rfl⟩
       repeat (first | exact ax.nil | refine ax.any ?_ | refine ax.cons ?_ | refine ax.eq (by rw[wrap_i64 (by omega)];rfl) ?_ | refine ax.eq (by show SV.v (Value.int .i64 ((k4 s.T (i+1):Nat):Int))=_;rw[hn];rfl) ?_ | refine ax.eq (by show _=SV.v (Value.int .i64 ((k4 s.T (i+1):Nat):Int));rw[hn];rfl) ?_)
     · conv=>whnf
       exact trivial
   · conv=>whnf
     repeat (refine aa.of ?_;conv=>whnf)
     refine ar.aj (ak.aF ae rfl rfl (ad:=⟨br,0,none⟩) (k:=273) (L:=C) (v:=s.qu.v) (aG.row (by simp[Value.cells])) (fun _=>rfl) hC.qu ?_)
     conv=>whnf
     repeat (refine aa.of ?_;conv=>whnf)
     refine aw.val h3 (fun w hw=>hw.qu) (fun v D hv=>?_)
     subst hv
     cases q2
     · conv=>whnf
       repeat (refine aa.of ?_;conv=>whnf)
       exact⟨_,ao.refl _,by unfold lJ;rw[aY hlt' (by rw[hok];rfl),Bool.false_and]⟩
     · conv=>whnf
       repeat (refine aa.of ?_;conv=>whnf)
       refine⟨i+1,⟨⟨hlt',hnext (by rw[hok];rfl)⟩,by dsimp only;omega⟩,?_,?_,ao.refl _⟩
       · conv=>whnf
         refine⟨?_,rfl⟩
         repeat (first | exact ax.nil | refine ax.any ?_ | refine ax.cons ?_ | refine ax.eq (by rw[wrap_i64 (by omega)];rfl) ?_ | refine ax.eq (by show SV.v (Value.int .i64 ((k4 s.T (i+1):Nat):Int))=_;rw[hn];first | rfl | (rw[wrap_i64 (by omega)];rfl)) ?_ | refine ax.eq (by show _=SV.v (Value.int .i64 ((k4 s.T (i+1):Nat):Int));rw[hn];first | rfl | (rw[wrap_i64 (by omega)];rfl)) ?_)
       · conv=>whnf
         exact trivial
 · have hie:i=32:=by
    simp[au] at hlt
    omega
   subst hie
   unfold lJ
   rw[bJ hall,Bool.true_and]
   generalize k4 s.T 32=n at *
   conv=>whnf
   repeat (refine aa.of ?_;conv=>whnf)
   refine ar.aj (ak.aF ae rfl rfl (ad:=⟨br,0,none⟩) (k:=273) (L:=C) (v:=s.qu.v) (aG.row (by simp[Value.cells])) (fun _=>rfl) hC.qu ?_)
   conv=>whnf
   repeat (refine aa.of ?_;conv=>whnf)
   exact⟨_,ao.refl _,by congr 1;rw[aM,Bool.eq_iff_iff];simp;omega⟩
end Go.Proofs.YtlnhdpjnlffaoaaGreatDoor
