/- Parts of the proof: AaV, AaW, AaX, AaY, AaZ, AbA, AbB, AbC, AbD. -/
import Derived.Test.YtlnhdpjnlffaoaaGreatDoorQF
import Derived.Test.YtlnhdpjnlffaoaaGreatDoorQG
namespace Go.Proofs.YtlnhdpjnlffaoaaGreatDoor
open Go Go.Sx
set_option maxRecDepth 100000
set_option maxHeartbeats 4000000
set_option linter.unusedVariables false
set_option linter.unusedSimpArgs false
def eO (l:List Cp) (o:Int) (r:Rt):Bool:=l.any fun x=>bJ x.owner o&&jT x.r r
theorem iP (nx:Int) (l:List Cp) (h:Hd) (hh:h.Ok l.length) (hl:l.length≤140737488355328) (o:Int) (r:Rt) :
 ah Tryz.prog 123 [.agg ⟨[.int .i64 nx,h.v l.length]⟩,.int .i64 o,.agg ⟨uO r⟩] (fun w=>af w h.a (l.flatMap bB)) (fun v F=>v = .bool (eO l o r)):=by
 have hg:=fun(b1 b2:Nat)=>sX bB (fun _=>rfl) 199 (fun w=>af w (some ⟨b1,0,none⟩) [.int .i64 o]∧af w (some ⟨b2,0,none⟩) (uO r)) (fun x=>bJ x.owner o&&jT x.r r) (.pointer (some ⟨b1,0,none⟩)) (.pointer (some ⟨b2,0,none⟩)) l h hh hl (fun e _=>oH e b1 b2 o r)
 unfold eO
 generalize (l.any fun x=>bJ x.owner o&&jT x.r r)=q1 at *
 refine ah.aK ae Tryz.func123 rfl (by decide) (n:=Tryz.f123.ntmps - 3) rfl rfl fun w0 av=>?_
 conv=>whnf
 repeat (refine aa.of ?_;conv=>whnf)
 intro b1
 conv=>whnf
 repeat (refine aa.of ?_;conv=>whnf)
 intro b2
 conv=>whnf
 repeat (refine aa.of ?_;conv=>whnf)
 intro b3
 conv=>whnf
 repeat (refine aa.of ?_;conv=>whnf)
 refine aw.look (hg b2 b3) ((Loc.row _ _).and ((Loc.row _ _).and (Loc.row _ _))) (fun w hst=>⟨hst.now,aG.box 1 rfl (by simp) rfl w hst,aG.box 2 rfl (by simp) rfl w hst⟩) ?_
 conv=>whnf
 repeat (refine aa.of ?_;conv=>whnf)
 exact⟨_,ao.refl _,rfl⟩
deriving instance DecidableEq for Rt
def rO (l:List Cp):Nat→Int→Option Rt
 | 0,_=>none
 | i+1,id=>if l[i]!.id=id then some l[i]!.r else rO l i id
def wS (l:List Cp):Nat→Int×Rt→Bool
 | 0,_=>false
 | i+1,k=>if (l[i]!.owner,l[i]!.r)=k then true else wS l i k
def eg (l:List Cp):Nat→Int
 | 0=>0
 | i+1=>l[i]!.id
def eV (nx:Int) (l:List Cp) (j:Nat):Bool:=
 decide (eg l j<l[j]!.id)&&(decide (l[j]!.id<nx)&&(zG l[j]!.r&&(decide (0≤l[j]!.owner∧l[j]!.owner<32)&&(!wS l j (l[j]!.owner,l[j]!.r) &&
  (if l[j]!.parent=0 then decide (l[j]!.owner=0) else match rO l j l[j]!.parent with
   | none=>false
   | some r=>jT r l[j]!.r)))))
def pk (r:Rt):Value:=.agg ⟨uO r⟩
def ga (k:Int×Rt):Value:=cR [k.1,k.2.ty,k.2.peer,k.2.code]
theorem tY (a b:Int×Rt) (h:ga a=ga b):a=b:=by
 have:=mS h
 obtain⟨a1,a2,a3,a4⟩:=a
 obtain⟨b1,b2,b3,b4⟩:=b
 simp at this
 obtain⟨rfl,rfl,rfl,rfl⟩:=this
 rfl
theorem wz (a b:Int) (h:bL a=bL b):a=b:=by
 unfold bL at h
 injection h
theorem nW {l:List Cp} : ∀ {i:Nat},(∀ j,j<i→eg l j<l[j]!.id)→∀ {id:Int},eg l i<id→rO l i id=none
 | 0,_,_,_=>rfl
 | i+1,h,id,hid=>by
  have h1:=h i (by omega)
  have h2:l[i]!.id<id:=hid
  unfold rO
  rw[if_neg (by omega)]
  exact nW (fun j hj=>h j (by omega)) (by omega)
theorem jk {nx:Int} {l:List Cp} {j:Nat} (h:eV nx l j=true):eg l j<l[j]!.id:=by
 unfold eV at h
 simp only[Bool.and_eq_true,decide_eq_true_eq] at h
 exact h.1
theorem gw (nx:Int) (l:List Cp) (h:Hd) (hh:h.Ok l.length) (hl:l.length≤140737488355328) :
 ah Tryz.prog 111 [.agg ⟨[.int .i64 nx,h.v l.length]⟩] (fun w=>af w h.a (l.flatMap bB)) (fun v F=>v = .bool (allI l.length (eV nx l)&&decide (l.length≤400∧1≤nx∧nx≤1099511627776))):=by
 refine ah.aK ae Tryz.func111 rfl (by decide) (n:=Tryz.f111.ntmps - 1) rfl rfl fun w0 av=>?_
 conv=>whnf
 repeat (refine aa.of ?_;conv=>whnf)
 intro b0
 conv=>whnf
 repeat (refine aa.of ?_;conv=>whnf)
 refine ar.lT fun m1=>?_
 conv=>whnf
 repeat (refine aa.of ?_;conv=>whnf)
 refine ar.lT fun m2=>?_
 conv=>whnf
 repeat (refine aa.of ?_;conv=>whnf)
 refine az.loop ae (ι:=Nat×iK×iK) ([5,7,8,9,10]++List.range' 16 81) (fun x=>x.1≤l.length∧(∀ j,j<x.1→eV nx l j=true)∧fV bL x.2.1 (fun id=>(rO l x.1 id).map pk)∧fV ga x.2.2 (fun k=>if wS l x.1 k then some (.bool true) else none))
  (fun x=>[(5,.v (.int .i64 (eg l x.1))),(16,.v (.int .i64 (x.1:Int)))]) (fun _=>[[.int .i64 nx,h.v l.length]]) (fun x=>⟨fun w=>af w h.a (l.flatMap bB),[(m1,Row.m (bX x.2.1) x.2.1.length),(m2,Row.m (bX x.2.2) x.2.2.length)]⟩)
  (fun x=>l.length - x.1) (0,[],[]) ⟨Nat.zero_le _,fun j h=>by omega,fV.empty wz fun a=>rfl,fV.empty tY fun a=>rfl⟩ ?_ rfl (ao.refl _) fun x hx=>?_
 · conv=>whnf
   repeat (first | exact ax.nil | refine ax.any ?_ | refine ax.cons ?_)
 obtain⟨i,kv1,kv2⟩:=x
 obtain⟨hi,hall,hm1,hm2⟩:=hx
 dsimp only at hi hall hm1 hm2 ⊢
 conv=>whnf
 repeat (refine aa.of ?_;conv=>whnf)
 refine bT.split (fun hlt=>?_) (fun hlt=>?_)
 · have hlt':i<l.length:=by
    simp only[au,decide_eq_true_eq] at hlt
    omega
   have hpr:=nm l[i].r
   obtain⟨q1,heq1⟩ : ∃ x,x=zG l[i].r:=⟨_,rfl⟩
   rw[← heq1] at hpr
   conv=>whnf
   repeat (refine aa.of ?_;conv=>whnf)
   refine ar.aj (ak.index ae (t:=82) rfl rfl rfl (by omega) (by omega) hh.nil fun ad had=>?_)
   conv=>whnf
   repeat (refine aa.of ?_;conv=>whnf)
   refine ar.aj (ak.aU ae (t:=161) rfl rfl (ad:=ad) (k:=i*6) (L:=l.flatMap bB) (m:=bB l[i]) (.fact fun w hw=>had ▸ hw) (by simp) (bj (cf:=bB) (z:=6) (fun _=>rfl) hlt') rfl ?_)
   conv=>whnf
   repeat (refine aa.of ?_;conv=>whnf)
   intro b7
   conv=>whnf
   repeat (refine aa.of ?_;conv=>whnf)
   intro b8
   conv=>whnf
   repeat (refine aa.of ?_;conv=>whnf)
   have hok:eV nx l i=(decide (eg l i<l[i].id)&&(decide (l[i].id<nx)&&(zG l[i].r&&(decide (0≤l[i].owner∧l[i].owner<32)&&(!wS l i (l[i].owner,l[i].r) &&
    (if l[i].parent=0 then decide (l[i].owner=0) else match rO l i l[i].parent with
     | none=>false
     | some r=>jT r l[i].r)))))):=by
    unfold eV
    rw[cm hlt']
   have hnext:eV nx l i=true→∀ j,j<i+1→eV nx l j=true:=fun hs j hj=>by
    rcases Nat.lt_or_eq_of_le (Nat.lt_succ_iff.1 hj) with h5 | h5
    · exact hall j h5
    · exact h5 ▸ hs
   have hk2 : ∀ k:Int×Rt,ju 4 (ga k):=fun k=>⟨_,rfl,rfl⟩
   have hk1 : ∀ k:Int,MapKept.IsKey (.int .i64) (bL k):=fun k=>rfl
   rcases hse:wS l i (l[i].owner,l[i].r) with _ | _<;>rcases hro:rO l i l[i].parent with _ | r
   · repeat' (first
      | (refine And.intro ?_ ?_<;>conv=>whnf)
      | (refine an.same rfl ?_;conv=>whnf)
      | (refine an.row rfl ?_;conv=>whnf)
      | (refine an.call rfl ?_;conv=>whnf)
      | (refine aS.of ?_;conv=>whnf)
      | (refine aa.of ?_;conv=>whnf)
      | (refine aw.val hpr (fun w hw=>trivial) (fun v D hv=>?_);subst hv;conv=>whnf)
      | (refine ar.aj (ak.kf ae (t:=323) rfl rfl rfl gV (k:=ga (l[i].owner,l[i].r)) (z:=.bool false) (dN.row (by simp)) (hk2 _) (hm2.all hk2) (hm2.no (by rw[hse];rfl)) (by kernel_rfl) ?_);rw[if_neg (by decide)];conv=>whnf)
      | (refine ar.aj (ak.pw ae (t:=322) rfl rfl rfl (d:=.int .i64) rfl (k:=bL l[i].parent) (z:=pk ⟨0,0,0⟩) (dN.row (by simp)) (hk1 _) (hm1.all hk1) (hm1.no (by rw[hro];rfl)) (by kernel_rfl) ?_);rw[if_pos rfl];conv=>whnf)
      | (intro b9;conv=>whnf)
      | (split<;>conv=>whnf)
      | (refine an.mk ?_ ?_;(focus (first | exact ao.refl _ | exact ao.left _ _ | exact ao.of_le ⟨List.sublist_append_left _ _,fun w h=>h⟩ | exact ao.of_le ⟨List.Sublist.refl _,fun w h=>h.1⟩));conv=>whnf))
     all_goals try (refine⟨_,ao.refl _,?_⟩;rw[aZ hlt' (by rw[hok,hse,hro,← heq1];clear hpr hall hm1 hm2 hnext hok;cases q1<;>simp_all [aJ,aI,au,aO,aN,jT]<;>(try omega))];first | done | rfl)
     all_goals
      have hgood:eV nx l i=true:=by rw[hok,hse,hro,← heq1];clear hpr hall hm1 hm2 hnext hok;cases q1<;>simp_all [aJ,aI,au,aO,aN,jT]<;>(try omega)
      have hfr:rO l i l[i].id=none:=nW (fun j hj=>jk (hall j hj)) (by have:=jk hgood;rwa [cm hlt'] at this)
      have hli:eg l (i+1)=l[i].id:=cm hlt' ▸ rfl
      have hn1:=hm1.push (a:=l[i].id) (v:=pk l[i].r) (g:=fun id=>(rO l (i+1) id).map pk) (by rw[hfr];rfl) (fun b=>by
       conv=>lhs;unfold rO
       rw[cm hlt']
       split<;>rfl)
      have hn2:=hm2.push (a:=(l[i].owner,l[i].r)) (v:=.bool true) (g:=fun k=>if wS l (i+1) k then some (.bool true) else none) (by rw[hse];rfl) (fun b=>by
       conv=>lhs;unfold wS
       rw[cm hlt']
       by_cases hb:(l[i].owner,l[i].r)=b
       · rw[if_pos hb,if_pos hb];rfl
       · rw[if_neg hb,if_neg hb])
      refine az.draw ae mixed rfl rfl ?_
      conv=>whnf
      repeat' (first
       | (refine And.intro ?_ ?_<;>conv=>whnf)
       | (refine an.same rfl ?_;conv=>whnf)
       | (refine an.row rfl ?_;conv=>whnf)
       | (refine an.call rfl ?_;conv=>whnf)
       | (refine aS.of ?_;conv=>whnf)
       | (refine aa.of ?_;conv=>whnf)
       | (refine aM.vl ae (t:=322) rfl rfl rfl (d:=.int .i64) rfl (r1:=[]) (r2:=[(m2,Row.m (bX kv2) kv2.length)]) (b:=m1) (l:=kv1) (k:=bL l[i].id) (v:=pk l[i].r) (hk1 _) (hm1.all hk1) (hm1.no (by rw[hfr];rfl)) ?_;conv=>whnf)
       | (refine aM.oS ae (t:=323) rfl rfl rfl gV (r1:=[(m1,Row.m (bX (kv1 ++ [(bL l[i].id,pk l[i].r)])) (kv1 ++ [(bL l[i].id,pk l[i].r)]).length)]) (r2:=[]) (b:=m2) (l:=kv2) (k:=ga (l[i].owner,l[i].r)) (v:=.bool true) (hk2 _) (hm2.all hk2) (hm2.no (by rw[hse];rfl)) ?_;conv=>whnf)
       | (refine an.mk ?_ ?_;(focus (first | exact ao.refl _ | exact ao.left _ _ | exact ao.of_le ⟨List.sublist_append_left _ _,fun w h=>h⟩ | exact ao.of_le ⟨List.Sublist.refl _,fun w h=>h.1⟩));conv=>whnf))
      all_goals
       refine⟨(i+1,kv1 ++ [(bL l[i].id,pk l[i].r)],kv2 ++ [(ga (l[i].owner,l[i].r),.bool true)]),⟨⟨hlt',hnext hgood,hn1,hn2⟩,by dsimp only;omega⟩,?_,?_,ao.refl _⟩
       · conv=>whnf
         refine⟨?_,rfl⟩
         repeat (first | exact ax.nil | refine ax.any ?_ | refine ax.cons ?_ | refine ax.eq (by rw[wrap_i64 (by omega)];rfl) ?_ | refine ax.eq (by show SV.v (Value.int .i64 (eg l (i+1)))=_;rw[hli]) ?_ | refine ax.eq (by show _=SV.v (Value.int .i64 (eg l (i+1)));rw[hli]) ?_)
       · conv=>whnf
         exact⟨⟨rfl,rfl⟩,trivial⟩
   · repeat' (first
      | (refine And.intro ?_ ?_<;>conv=>whnf)
      | (refine an.same rfl ?_;conv=>whnf)
      | (refine an.row rfl ?_;conv=>whnf)
      | (refine an.call rfl ?_;conv=>whnf)
      | (refine aS.of ?_;conv=>whnf)
      | (refine aa.of ?_;conv=>whnf)
      | (refine aw.val hpr (fun w hw=>trivial) (fun v D hv=>?_);subst hv;conv=>whnf)
      | (refine ar.aj (ak.kf ae (t:=323) rfl rfl rfl gV (k:=ga (l[i].owner,l[i].r)) (z:=.bool false) (dN.row (by simp)) (hk2 _) (hm2.all hk2) (hm2.no (by rw[hse];rfl)) (by kernel_rfl) ?_);rw[if_neg (by decide)];conv=>whnf)
      | (refine ar.aj (ak.p_ ae (t:=322) rfl rfl rfl (d:=.int .i64) rfl (k:=bL l[i].parent) (v:=pk r) (dN.row (by simp)) (hk1 _) (hm1.all hk1) (fun i2 u2 h2=>hm1.val (by rw[hro];rfl) i2 u2 h2) (hm1.has _ _ (by rw[hro];rfl)) ?_);rw[if_pos rfl];conv=>whnf)
      | (refine ar.aj (ak.x8 nY (by kernel_rfl) (xs:=[r.ty,r.peer,r.code]) (ys:=[l[i].r.ty,l[i].r.peer,l[i].r.code]) rfl rfl ?_);conv=>whnf)
      | (intro b9;conv=>whnf)
      | (split<;>conv=>whnf)
      | (refine an.mk ?_ ?_;(focus (first | exact ao.refl _ | exact ao.left _ _ | exact ao.of_le ⟨List.sublist_append_left _ _,fun w h=>h⟩ | exact ao.of_le ⟨List.Sublist.refl _,fun w h=>h.1⟩));conv=>whnf))
     all_goals try (refine⟨_,ao.refl _,?_⟩;rw[aZ hlt' (by rw[hok,hse,hro,← heq1];clear hpr hall hm1 hm2 hnext hok;cases q1<;>simp_all [aJ,aI,au,aO,aN,jT]<;>(try omega))];first | done | rfl)
     all_goals
      have hgood:eV nx l i=true:=by rw[hok,hse,hro,← heq1];clear hpr hall hm1 hm2 hnext hok;cases q1<;>simp_all [aJ,aI,au,aO,aN,jT]<;>(try omega)
      have hfr:rO l i l[i].id=none:=nW (fun j hj=>jk (hall j hj)) (by have:=jk hgood;rwa [cm hlt'] at this)
      have hli:eg l (i+1)=l[i].id:=cm hlt' ▸ rfl
      have hn1:=hm1.push (a:=l[i].id) (v:=pk l[i].r) (g:=fun id=>(rO l (i+1) id).map pk) (by rw[hfr];rfl) (fun b=>by
       conv=>lhs;unfold rO
       rw[cm hlt']
       split<;>rfl)
      have hn2:=hm2.push (a:=(l[i].owner,l[i].r)) (v:=.bool true) (g:=fun k=>if wS l (i+1) k then some (.bool true) else none) (by rw[hse];rfl) (fun b=>by
       conv=>lhs;unfold wS
       rw[cm hlt']
       by_cases hb:(l[i].owner,l[i].r)=b
       · rw[if_pos hb,if_pos hb];rfl
       · rw[if_neg hb,if_neg hb])
      refine az.draw ae mixed rfl rfl ?_
      conv=>whnf
      repeat' (first
       | (refine And.intro ?_ ?_<;>conv=>whnf)
       | (refine an.same rfl ?_;conv=>whnf)
       | (refine an.row rfl ?_;conv=>whnf)
       | (refine an.call rfl ?_;conv=>whnf)
       | (refine aS.of ?_;conv=>whnf)
       | (refine aa.of ?_;conv=>whnf)
       | (refine aM.vl ae (t:=322) rfl rfl rfl (d:=.int .i64) rfl (r1:=[]) (r2:=[(m2,Row.m (bX kv2) kv2.length)]) (b:=m1) (l:=kv1) (k:=bL l[i].id) (v:=pk l[i].r) (hk1 _) (hm1.all hk1) (hm1.no (by rw[hfr];rfl)) ?_;conv=>whnf)
       | (refine aM.oS ae (t:=323) rfl rfl rfl gV (r1:=[(m1,Row.m (bX (kv1 ++ [(bL l[i].id,pk l[i].r)])) (kv1 ++ [(bL l[i].id,pk l[i].r)]).length)]) (r2:=[]) (b:=m2) (l:=kv2) (k:=ga (l[i].owner,l[i].r)) (v:=.bool true) (hk2 _) (hm2.all hk2) (hm2.no (by rw[hse];rfl)) ?_;conv=>whnf)
       | (refine an.mk ?_ ?_;(focus (first | exact ao.refl _ | exact ao.left _ _ | exact ao.of_le ⟨List.sublist_append_left _ _,fun w h=>h⟩ | exact ao.of_le ⟨List.Sublist.refl _,fun w h=>h.1⟩));conv=>whnf))
      all_goals
       refine⟨(i+1,kv1 ++ [(bL l[i].id,pk l[i].r)],kv2 ++ [(ga (l[i].owner,l[i].r),.bool true)]),⟨⟨hlt',hnext hgood,hn1,hn2⟩,by dsimp only;omega⟩,?_,?_,ao.refl _⟩
       · conv=>whnf
         refine⟨?_,rfl⟩
         repeat (first | exact ax.nil | refine ax.any ?_ | refine ax.cons ?_ | refine ax.eq (by rw[wrap_i64 (by omega)];rfl) ?_ | refine ax.eq (by show SV.v (Value.int .i64 (eg l (i+1)))=_;rw[hli]) ?_ | refine ax.eq (by show _=SV.v (Value.int .i64 (eg l (i+1)));rw[hli]) ?_)
       · conv=>whnf
         exact⟨⟨rfl,rfl⟩,trivial⟩
   · repeat' (first
      | (refine And.intro ?_ ?_<;>conv=>whnf)
      | (refine an.same rfl ?_;conv=>whnf)
      | (refine an.row rfl ?_;conv=>whnf)
      | (refine an.call rfl ?_;conv=>whnf)
      | (refine aS.of ?_;conv=>whnf)
      | (refine aa.of ?_;conv=>whnf)
      | (refine aw.val hpr (fun w hw=>trivial) (fun v D hv=>?_);subst hv;conv=>whnf)
      | (refine ar.aj (ak.jI ae (t:=323) rfl rfl rfl gV (k:=ga (l[i].owner,l[i].r)) (v:=.bool true) (dN.row (by simp)) (hk2 _) (hm2.all hk2) (fun i2 u2 h2=>hm2.val (by rw[hse];rfl) i2 u2 h2) (hm2.has _ _ (by rw[hse];rfl)) ?_);rw[if_neg (by decide)];conv=>whnf)
      | (refine ar.aj (ak.pw ae (t:=322) rfl rfl rfl (d:=.int .i64) rfl (k:=bL l[i].parent) (z:=pk ⟨0,0,0⟩) (dN.row (by simp)) (hk1 _) (hm1.all hk1) (hm1.no (by rw[hro];rfl)) (by kernel_rfl) ?_);rw[if_pos rfl];conv=>whnf)
      | (intro b9;conv=>whnf)
      | (split<;>conv=>whnf)
      | (refine an.mk ?_ ?_;(focus (first | exact ao.refl _ | exact ao.left _ _ | exact ao.of_le ⟨List.sublist_append_left _ _,fun w h=>h⟩ | exact ao.of_le ⟨List.Sublist.refl _,fun w h=>h.1⟩));conv=>whnf))
     all_goals try (refine⟨_,ao.refl _,?_⟩;rw[aZ hlt' (by rw[hok,hse,hro,← heq1];clear hpr hall hm1 hm2 hnext hok;cases q1<;>simp_all [aJ,aI,au,aO,aN,jT]<;>(try omega))];first | done | rfl)
   · repeat' (first
      | (refine And.intro ?_ ?_<;>conv=>whnf)
      | (refine an.same rfl ?_;conv=>whnf)
      | (refine an.row rfl ?_;conv=>whnf)
      | (refine an.call rfl ?_;conv=>whnf)
      | (refine aS.of ?_;conv=>whnf)
      | (refine aa.of ?_;conv=>whnf)
      | (refine aw.val hpr (fun w hw=>trivial) (fun v D hv=>?_);subst hv;conv=>whnf)
      | (refine ar.aj (ak.jI ae (t:=323) rfl rfl rfl gV (k:=ga (l[i].owner,l[i].r)) (v:=.bool true) (dN.row (by simp)) (hk2 _) (hm2.all hk2) (fun i2 u2 h2=>hm2.val (by rw[hse];rfl) i2 u2 h2) (hm2.has _ _ (by rw[hse];rfl)) ?_);rw[if_neg (by decide)];conv=>whnf)
      | (refine ar.aj (ak.p_ ae (t:=322) rfl rfl rfl (d:=.int .i64) rfl (k:=bL l[i].parent) (v:=pk r) (dN.row (by simp)) (hk1 _) (hm1.all hk1) (fun i2 u2 h2=>hm1.val (by rw[hro];rfl) i2 u2 h2) (hm1.has _ _ (by rw[hro];rfl)) ?_);rw[if_pos rfl];conv=>whnf)
      | (refine ar.aj (ak.x8 nY (by kernel_rfl) (xs:=[r.ty,r.peer,r.code]) (ys:=[l[i].r.ty,l[i].r.peer,l[i].r.code]) rfl rfl ?_);conv=>whnf)
      | (intro b9;conv=>whnf)
      | (split<;>conv=>whnf)
      | (refine an.mk ?_ ?_;(focus (first | exact ao.refl _ | exact ao.left _ _ | exact ao.of_le ⟨List.sublist_append_left _ _,fun w h=>h⟩ | exact ao.of_le ⟨List.Sublist.refl _,fun w h=>h.1⟩));conv=>whnf))
     all_goals try (refine⟨_,ao.refl _,?_⟩;rw[aZ hlt' (by rw[hok,hse,hro,← heq1];clear hpr hall hm1 hm2 hnext hok;cases q1<;>simp_all [aJ,aI,au,aO,aN,jT]<;>(try omega))];first | done | rfl)
 · have hie:i=l.length:=by
    simp only[au,decide_eq_false_iff_not] at hlt
    omega
   subst hie
   conv=>whnf
   repeat (refine aa.of ?_;conv=>whnf)
   refine⟨_,ao.refl _,?_⟩
   rw[bH hall,Bool.true_and]
   congr 1
   rw[Bool.eq_iff_iff]
   simp[aJ,aI,and_assoc]
   try omega
structure gn where
 kind:Int
 st:Int
 call:Int
 stp:Bool
 cls:Bool
 dn:Bool
 res:Int
 data:Bs
instance:Inhabited gn:=⟨⟨0,0,0,false,false,false,0,default⟩⟩
def eP (x:gn):List Value:=[.int .i64 x.kind,.int .i64 x.st,.int .i64 x.call,.bool x.stp,.bool x.cls,.bool x.dn,.int .i64 x.res,de x.data]
theorem jb (a:Int):ah Tryz.prog 115 [.int .i64 a] (fun _=>True) (fun v F=>v = .bool (decide (1≤a∧a≤10))):=by
 refine ah.aK ae Tryz.func115 rfl (by decide) (n:=Tryz.f115.ntmps - 1) rfl rfl fun w0 av=>?_
 conv=>whnf
 repeat (refine aa.of ?_;conv=>whnf)
 exact⟨_,ao.refl _,by congr 1;rw[Bool.eq_iff_iff];simp[aI,au,aJ,aH,aO,aN,and_assoc];try omega⟩
theorem er (a:Int):ah Tryz.prog 116 [.int .i64 a] (fun _=>True) (fun v F=>v = .bool (decide (16≤a∧a<32))):=by
 refine ah.aK ae Tryz.func116 rfl (by decide) (n:=Tryz.f116.ntmps - 1) rfl rfl fun w0 av=>?_
 conv=>whnf
 repeat (refine aa.of ?_;conv=>whnf)
 exact⟨_,ao.refl _,by congr 1;rw[Bool.eq_iff_iff];simp[aI,au,aJ,aH,aO,aN,and_assoc];try omega⟩
def gZ (x:gn):Bool:=bJ x.st 0&&(bJ x.call 0&&(!x.stp&&(!x.cls&&(!x.dn&&(bJ x.res 0&&decide (x.data.n=0))))))
theorem n7 (x:gn):ah Tryz.prog 119 [.agg ⟨eP x⟩] (fun _=>True) (fun v F=>v = .bool (gZ x)):=by
 unfold gZ
 refine ah.aK ae Tryz.func119 rfl (by decide) (n:=Tryz.f119.ntmps - 1) rfl rfl fun w0 av=>?_
 conv=>whnf
 repeat (refine aa.of ?_;conv=>whnf)
 intro b1
 conv=>whnf
 repeat (refine aa.of ?_;conv=>whnf)
 repeat' (first
  | (refine And.intro ?_ ?_<;>conv=>whnf)
  | (refine an.same rfl ?_;conv=>whnf)
  | (refine an.row rfl ?_;conv=>whnf)
  | (refine an.call rfl ?_;conv=>whnf)
  | (refine aS.of ?_;conv=>whnf)
  | (refine aa.of ?_;conv=>whnf)
  | (split<;>conv=>whnf)
  | (refine an.mk ?_ ?_;(focus (first | exact ao.refl _ | exact ao.left _ _ | exact ao.of_le ⟨List.sublist_append_left _ _,fun w h=>h⟩ | exact ao.of_le ⟨List.Sublist.refl _,fun w h=>h.1⟩));conv=>whnf))
 all_goals refine⟨_,ao.refl _,?_⟩
 all_goals first | rfl | (congr 1;done) | (congr 1;rw[Bool.eq_iff_iff];simp_all [aI,au,aJ,aH,aO,aN,and_assoc];done) | (congr 1;rw[Bool.eq_iff_iff];simp_all [aI,au,aJ,aH,aO,aN,and_assoc];omega) | (congr 1;rw[Bool.eq_iff_iff];(try cases q1)<;>(try cases q2)<;>(try cases q3)<;>(try simp_all [aI,au,aJ,aH,aO,aN,and_assoc])<;>(try omega);done)
def rR (x:gn):Bool:=if x.dn then decide (x.data.n≤128) else (bJ x.res 0&&decide (x.data.n=0))
def ey (x:gn):Bool:=if bJ x.st 1 then (if lz x.call 0||(gQ x.call 20||x.dn) then false else rR x) else if bJ x.st 0||bJ x.st 2 then (if kr x.call 0||(bJ x.st 2&&kr x.kind 3) then false else rR x) else false
theorem lZ (x:gn):ah Tryz.prog 118 [.agg ⟨eP x⟩] (fun _=>True) (fun v F=>v = .bool (ey x)):=by
 unfold ey rR
 refine ah.aK ae Tryz.func118 rfl (by decide) (n:=Tryz.f118.ntmps - 1) rfl rfl fun w0 av=>?_
 conv=>whnf
 repeat (refine aa.of ?_;conv=>whnf)
 intro b1
 conv=>whnf
 repeat (refine aa.of ?_;conv=>whnf)
 repeat' (first
  | (refine And.intro ?_ ?_<;>conv=>whnf)
  | (refine an.same rfl ?_;conv=>whnf)
  | (refine an.row rfl ?_;conv=>whnf)
  | (refine an.call rfl ?_;conv=>whnf)
  | (refine aS.of ?_;conv=>whnf)
  | (refine aa.of ?_;conv=>whnf)
  | (refine bT.split (fun h=>?_) (fun h=>?_)<;>conv=>whnf)
  | (split<;>conv=>whnf)
  | (refine an.mk ?_ ?_;(focus (first | exact ao.refl _ | exact ao.left _ _ | exact ao.of_le ⟨List.sublist_append_left _ _,fun w h=>h⟩ | exact ao.of_le ⟨List.Sublist.refl _,fun w h=>h.1⟩));conv=>whnf))
 all_goals refine⟨_,ao.refl _,?_⟩
 all_goals first | rfl | (congr 1;done) | (congr 1;rw[Bool.eq_iff_iff];simp_all [aI,au,aJ,aH,aO,aN,and_assoc];done) | (congr 1;rw[Bool.eq_iff_iff];simp_all [aI,au,aJ,aH,aO,aN,and_assoc];omega) | (congr 1;rw[Bool.eq_iff_iff];(try cases q1)<;>(try cases q2)<;>(try cases q3)<;>(try simp_all [aI,au,aJ,aH,aO,aN,and_assoc])<;>(try omega);done)
structure gI (C:List Value) (T:Nat→gn):Prop where
 len:C.length=376
 at' : ∀ i,i<32→(C.drop (i*8)).take 8=eP (T i)
theorem gI.get {C:List Value} {T:Nat→gn} (h:gI C T) {i:Nat} (hi:i<32):((C.take 256).drop (i*8)).take 8=eP (T i):=by
 rw[← h.at' i hi]
 apply List.ext_getElem?
 intro j
 rw[List.getElem?_take,List.getElem?_take,List.getElem?_drop,List.getElem?_drop,List.getElem?_take]
 by_cases hj:j<8
 · rw[if_pos hj,if_pos hj,if_pos (by omega)]
 · rw[if_neg hj,if_neg hj]
def kindOk (T:Nat→gn) (i:Nat):Bool:=decide ((1≤i∧i≤10→(T i).kind=1)∧(16≤i→(T i).kind=0∨(T i).kind=2∨(T i).kind=3)∧(¬ (1≤i∧i≤10)→¬ 16≤i→(T i).kind=0))
theorem rp (C:List Value) (T:Nat→gn) (hT:gI C T):ah Tryz.prog 62 [.agg ⟨C⟩] (fun _=>True) (fun v F=>v = .bool (allI 32 (kindOk T))):=by
 refine ah.aK ae Tryz.func62 rfl (by decide) (n:=Tryz.f62.ntmps - 1) rfl rfl fun w0 av=>?_
 conv=>whnf
 repeat (refine aa.of ?_;conv=>whnf)
 refine ar.cA fun br=>?_
 conv=>whnf
 repeat (refine aa.of ?_;conv=>whnf)
 refine ar.aj (ak.aU ae rfl rfl (ad:=⟨br,0,none⟩) (k:=0) (L:=C) (m:=C.take 256) (aG.row (by simp[Value.cells])) rfl (by rw[List.drop_zero]) (by rw[List.length_take,hT.len];rfl) ?_)
 conv=>whnf
 repeat (refine aa.of ?_;conv=>whnf)
 refine az.loop ae (ι:=Nat) ([3,4,5]++List.range' 9 30) (fun x=>x≤32∧∀ j,j<x→kindOk T j=true)
  (fun x=>[(9,.v (.int .i64 (x:Int)))]) (fun _=>[]) (fun _=>⟨fun w=>True,[(br,Row.c C)]⟩)
  (fun x=>32 - x) 0 ⟨Nat.zero_le _,fun j h=>by omega⟩ ?_ rfl (ao.of_le ⟨by simp[Value.cells],fun w hw=>hw⟩) fun i hi=>?_
 · conv=>whnf
   repeat (first | exact ax.nil | refine ax.any ?_ | refine ax.cons ?_)
 obtain⟨hi,hall⟩:=hi
 conv=>whnf
 repeat (refine aa.of ?_;conv=>whnf)
 refine bT.split (fun hlt=>?_) (fun hlt=>?_)
 · have hlt':i<32:=by
    simp[au] at hlt
    omega
   have h1:=jb (i:Int)
   have h2:=er (i:Int)
   have hok:kindOk T i=decide ((1≤i∧i≤10→(T i).kind=1)∧(16≤i→(T i).kind=0∨(T i).kind=2∨(T i).kind=3)∧(¬ (1≤i∧i≤10)→¬ 16≤i→(T i).kind=0)):=rfl
   have hnext:kindOk T i=true→∀ j,j<i+1→kindOk T j=true:=fun hs j hj=>by
    rcases Nat.lt_or_eq_of_le (Nat.lt_succ_iff.1 hj) with h5 | h5
    · exact hall j h5
    · exact h5 ▸ hs
   obtain⟨q1,heq1⟩ : ∃ q,q=decide (1≤(i:Int)∧(i:Int)≤10):=⟨_,rfl⟩
   obtain⟨q2,heq2⟩ : ∃ q,q=decide (16≤(i:Int)∧(i:Int)<32):=⟨_,rfl⟩
   rw[← heq1] at h1
   rw[← heq2] at h2
   conv=>whnf
   repeat (refine aa.of ?_;conv=>whnf)
   refine ar.aj (ak.nQ ae (t:=78) rfl rfl rfl rfl (l:=C.take 256) (m:=eP (T i)) i rfl hlt' (hT.get hlt') (by rw[List.length_take,hT.len];show i*8+8≤_;omega) ?_)
   conv=>whnf
   repeat (refine aa.of ?_;conv=>whnf)
   intro b4
   conv=>whnf
   repeat (refine aa.of ?_;conv=>whnf)
   repeat' (first
    | (refine And.intro ?_ ?_<;>conv=>whnf)
    | (refine an.same rfl ?_;conv=>whnf)
    | (refine an.row rfl ?_;conv=>whnf)
    | (refine an.call rfl ?_;conv=>whnf)
    | (refine aS.of ?_;conv=>whnf)
    | (refine aa.of ?_;conv=>whnf)
    | (refine aw.val h1 (fun w hw=>trivial) (fun v D hv=>?_);subst hv;conv=>whnf)
    | (refine aw.val h2 (fun w hw=>trivial) (fun v D hv=>?_);subst hv;conv=>whnf)
    | (refine bT.split (fun h=>?_) (fun h=>?_)<;>conv=>whnf)
    | (split<;>conv=>whnf)
    | (refine an.mk ?_ ?_;(focus (first | exact ao.refl _ | exact ao.left _ _ | exact ao.of_le ⟨List.sublist_append_left _ _,fun w h=>h⟩ | exact ao.of_le ⟨List.Sublist.refl _,fun w h=>h.1⟩));conv=>whnf))
   all_goals first
    | (refine⟨_,ao.refl _,?_⟩;rw[aZ hlt' (by rw[hok];((try subst heq1);(try subst heq2);(try subst heq3);simp only[cond_true,cond_false,au,aJ,aH,aI,aO,aN,decide_eq_true_eq,decide_eq_false_iff_not,beq_iff_eq,bne_iff_ne,ne_eq,beq_eq_false_iff_ne,bne_eq_false_iff_eq,Bool.not_eq_true,Bool.not_eq_false,Bool.and_true,Bool.true_and,Bool.and_false,Bool.false_and,Bool.or_true,Bool.or_false,Bool.true_or,Bool.false_or,Bool.not_eq_true',Bool.not_eq_false',Bool.not_true,Bool.not_false,Bool.or_eq_true,Bool.or_eq_false_iff,and_imp] at *;first | omega | (simp_all;done) | (simp_all;omega)))];first | done | rfl)
    | (
     refine⟨i+1,⟨⟨hlt',hnext (by rw[hok];((try subst heq1);(try subst heq2);(try subst heq3);simp only[cond_true,cond_false,au,aJ,aH,aI,aO,aN,decide_eq_true_eq,decide_eq_false_iff_not,beq_iff_eq,bne_iff_ne,ne_eq,beq_eq_false_iff_ne,bne_eq_false_iff_eq,Bool.not_eq_true,Bool.not_eq_false,Bool.and_true,Bool.true_and,Bool.and_false,Bool.false_and,Bool.or_true,Bool.or_false,Bool.true_or,Bool.false_or,Bool.not_eq_true',Bool.not_eq_false',Bool.not_true,Bool.not_false,Bool.or_eq_true,Bool.or_eq_false_iff,and_imp] at *;first | omega | (simp_all;done) | (simp_all;omega)))⟩,by dsimp only;omega⟩,?_,?_,ao.refl _⟩;(conv=>whnf);refine⟨?_,rfl⟩;repeat (first | exact ax.nil | refine ax.any ?_ | refine ax.cons ?_ | refine ax.eq (by rw[wrap_i64 (by omega)];rfl) ?_)
     (conv=>whnf);exact trivial)
 · have hie:i=32:=by
    simp[au] at hlt
    omega
   subst hie
   conv=>whnf
   repeat (refine aa.of ?_;conv=>whnf)
   exact⟨_,ao.refl _,by rw[bH hall]⟩
theorem gI.kind {C:List Value} {T:Nat→gn} (h:gI C T) {i:Nat} (hi:i<32):C[i*8]? = some (.int .i64 (T i).kind):=by
 have:=congrArg (·[0]?) (h.at' i hi)
 simpa [eP] using this
theorem eZ (C:List Value) (T:Nat→gn) (hT:gI C T) (i:Nat) (hi:i<32):ah Tryz.prog 117 [.agg ⟨C⟩,.int .i64 (i:Int)] (fun _=>True) (fun v F=>v = .bool (kr (T i).kind 0)):=by
 refine ah.aK ae Tryz.func117 rfl (by decide) (n:=Tryz.f117.ntmps - 2) rfl rfl fun w0 av=>?_
 conv=>whnf
 repeat (refine aa.of ?_;conv=>whnf)
 refine ar.cA fun br=>?_
 conv=>whnf
 repeat (refine aa.of ?_;conv=>whnf)
 refine ar.aj (ak.bE ae (t:=78) rfl rfl rfl i rfl hi rfl ?_)
 conv=>whnf
 repeat (refine aa.of ?_;conv=>whnf)
 refine ar.aj (ak.aE ae rfl rfl (ad:=⟨br,0,none⟩) (k:=i*8) (L:=C) (v:=.int .i64 (T i).kind) (aG.row (by simp[Value.cells])) (fun _=>by simp[Addr.add]) (hT.kind hi) ?_)
 conv=>whnf
 repeat (refine aa.of ?_;conv=>whnf)
 exact⟨_,ao.refl _,rfl⟩
def iA (T:Nat→gn) (i:Nat):Bool:=if 16≤i∧(T i).kind≠0 then ey (T i) else gZ (T i)
theorem oW (C:List Value) (T:Nat→gn) (hT:gI C T) (hone : ∀ v∈C,aW v=true):ah Tryz.prog 63 [.agg ⟨C⟩] (fun _=>True) (fun v F=>v = .bool (allI 32 (iA T))):=by
 refine ah.aK ae Tryz.func63 rfl (by decide) (n:=Tryz.f63.ntmps - 1) rfl rfl fun w0 av=>?_
 conv=>whnf
 repeat (refine aa.of ?_;conv=>whnf)
 refine ar.cA fun br=>?_
 conv=>whnf
 repeat (refine aa.of ?_;conv=>whnf)
 refine ar.aj (ak.aU ae rfl rfl (ad:=⟨br,0,none⟩) (k:=0) (L:=C) (m:=C.take 256) (aG.row (by simp[Value.cells])) rfl (by rw[List.drop_zero]) (by rw[List.length_take,hT.len];rfl) ?_)
 conv=>whnf
 repeat (refine aa.of ?_;conv=>whnf)
 refine az.loop ae (ι:=Nat) ([3,4]++List.range' 8 18) (fun x=>x≤32∧∀ j,j<x→iA T j=true)
  (fun x=>[(8,.v (.int .i64 (x:Int)))]) (fun _=>[]) (fun _=>⟨fun w=>True,[(br,Row.c C)]⟩)
  (fun x=>32 - x) 0 ⟨Nat.zero_le _,fun j h=>by omega⟩ ?_ rfl (ao.of_le ⟨by simp[Value.cells],fun w hw=>hw⟩) fun i hi=>?_
 · conv=>whnf
   repeat (first | exact ax.nil | refine ax.any ?_ | refine ax.cons ?_)
 obtain⟨hi,hall⟩:=hi
 conv=>whnf
 repeat (refine aa.of ?_;conv=>whnf)
 refine bT.split (fun hlt=>?_) (fun hlt=>?_)
 · have hlt':i<32:=by
    simp[au] at hlt
    omega
   have h2:=er (i:Int)
   have h3:=eZ C T hT i hlt'
   have h4:=lZ (T i)
   have h5:=n7 (T i)
   have hnext:iA T i=true→∀ j,j<i+1→iA T j=true:=fun hs j hj=>by
    rcases Nat.lt_or_eq_of_le (Nat.lt_succ_iff.1 hj) with h5 | h5
    · exact hall j h5
    · exact h5 ▸ hs
   have hok:iA T i=(if 16≤i∧(T i).kind≠0 then ey (T i) else gZ (T i)):=rfl
   obtain⟨q1,heq1⟩ : ∃ q,q=decide (16≤(i:Int)∧(i:Int)<32):=⟨_,rfl⟩
   obtain⟨q2,heq2⟩ : ∃ q,q=kr (T i).kind 0:=⟨_,rfl⟩
   rw[← heq1] at h2
   rw[← heq2] at h3
   have hc:(q1&&q2)=decide (16≤i∧(T i).kind≠0):=by
    rw[heq1,heq2,Bool.eq_iff_iff]
    simp[aN]
    omega
   have hok2:iA T i=(if (q1&&q2)=true then ey (T i) else gZ (T i)):=by
    rw[hc,hok]
    by_cases hx:16≤i∧(T i).kind≠0
    · rw[if_pos hx,decide_eq_true hx,if_pos rfl]
    · rw[if_neg hx,decide_eq_false hx,if_neg (by decide)]
   clear hok hc heq1 heq2
   generalize ey (T i)=q3 at *
   generalize gZ (T i)=q4 at *
   conv=>whnf
   repeat (refine aa.of ?_;conv=>whnf)
   refine ar.aj (ak.nQ ae (t:=78) rfl rfl rfl rfl (l:=C.take 256) (m:=eP (T i)) i rfl hlt' (hT.get hlt') (by rw[List.length_take,hT.len];show i*8+8≤_;omega) ?_)
   conv=>whnf
   repeat (refine aa.of ?_;conv=>whnf)
   intro b4
   conv=>whnf
   repeat (refine aa.of ?_;conv=>whnf)
   repeat' (first
    | (refine And.intro ?_ ?_<;>conv=>whnf)
    | (refine an.same rfl ?_;conv=>whnf)
    | (refine an.row rfl ?_;conv=>whnf)
    | (refine an.call rfl ?_;conv=>whnf)
    | (refine aS.of ?_;conv=>whnf)
    | (refine aa.of ?_;conv=>whnf)
    | (refine aw.val h2 (fun w hw=>trivial) (fun v D hv=>?_);subst hv;conv=>whnf)
    | (refine aw.val h3 (fun w hw=>trivial) (fun v D hv=>?_);subst hv;conv=>whnf)
    | (refine aw.val h4 (fun w hw=>trivial) (fun v D hv=>?_);subst hv;conv=>whnf)
    | (refine aw.val h5 (fun w hw=>trivial) (fun v D hv=>?_);subst hv;conv=>whnf)
    | (refine ar.aj (ak.aU ae rfl rfl (ad:=⟨br,0,none⟩) (k:=0) (L:=C) (m:=C) (aG.row (by simp[Value.cells])) rfl (by rw[List.drop_zero];exact List.take_of_length_le (by rw[hT.len];exact Nat.le_refl _)) hT.len ?_);conv=>whnf)
    | (cases q1<;>conv=>whnf)
    | (cases q2<;>conv=>whnf)
    | (cases q3<;>conv=>whnf)
    | (cases q4<;>conv=>whnf)
    | (refine an.mk ?_ ?_;(focus (first | exact ao.refl _ | exact ao.left _ _ | exact ao.of_le ⟨List.sublist_append_left _ _,fun w h=>h⟩ | exact ao.of_le ⟨List.Sublist.refl _,fun w h=>h.1⟩));conv=>whnf))
   all_goals first
    | (refine⟨_,ao.refl _,?_⟩;rw[aZ hlt' (by rw[hok2];rfl)];done)
    | (
     refine⟨i+1,⟨⟨hlt',hnext (by rw[hok2];rfl)⟩,by dsimp only;omega⟩,?_,?_,ao.refl _⟩;(conv=>whnf);refine⟨?_,rfl⟩;repeat (first | exact ax.nil | refine ax.any ?_ | refine ax.cons ?_ | refine ax.eq (by rw[wrap_i64 (by omega)];rfl) ?_)
     (conv=>whnf);exact trivial)
 · have hie:i=32:=by
    simp[au] at hlt
    omega
   subst hie
   conv=>whnf
   repeat (refine aa.of ?_;conv=>whnf)
   exact⟨_,ao.refl _,by rw[bH hall]⟩
def gz (D:Nat→Bool):Nat→Nat
 | 0=>0
 | i+1=>gz D i+(if D i then 1 else 0)
theorem qf (D:Nat→Bool) : ∀ i,gz D i≤i
 | 0=>Nat.le_refl _
 | i+1=>by
  have:=qf D i
  unfold gz
  split<;>omega
def oc (D:Nat→Bool):Bool:=decide (gz D 11≤1)&&(!D 0 && !D 1)
theorem uw (C:List Value) (D:Nat→Bool) (hl:C.length=376) (hD : ∀ i,i<11→C[256+i]? = some (.bool (D i))):ah Tryz.prog 71 [.agg ⟨C⟩] (fun _=>True) (fun v F=>v = .bool (oc D)):=by
 refine ah.aK ae Tryz.func71 rfl (by decide) (n:=Tryz.f71.ntmps - 1) rfl rfl fun w0 av=>?_
 conv=>whnf
 repeat (refine aa.of ?_;conv=>whnf)
 refine ar.cA fun br=>?_
 conv=>whnf
 repeat (refine aa.of ?_;conv=>whnf)
 refine ar.aj (ak.aU ae rfl rfl (ad:=⟨br,0,none⟩) (k:=256) (L:=C) (m:=(C.drop 256).take 11) (aG.row (by simp[Value.cells])) rfl rfl (by rw[List.length_take,List.length_drop,hl];rfl) ?_)
 conv=>whnf
 repeat (refine aa.of ?_;conv=>whnf)
 refine az.loop ae (ι:=Nat) ([3,5]++List.range' 9 7) (fun x=>x≤11)
  (fun x=>[(3,.v (.int .i64 (gz D x:Int))),(9,.v (.int .i64 (x:Int)))]) (fun _=>[]) (fun _=>⟨fun w=>True,[(br,Row.c C)]⟩)
  (fun x=>11 - x) 0 (Nat.zero_le _) ?_ rfl (ao.of_le ⟨by simp[Value.cells],fun w hw=>hw⟩) fun i hi=>?_
 · conv=>whnf
   repeat (first | exact ax.nil | refine ax.any ?_ | refine ax.cons ?_)
 have hle:=qf D i
 conv=>whnf
 repeat (refine aa.of ?_;conv=>whnf)
 refine bT.split (fun hlt=>?_) (fun hlt=>?_)
 · have hlt':i<11:=by
    simp[au] at hlt
    omega
   have hn:gz D (i+1)=gz D i+(if D i then 1 else 0):=rfl
   conv=>whnf
   repeat (refine aa.of ?_;conv=>whnf)
   refine ar.aj (ak.fF ae (t:=26) rfl rfl rfl rfl rfl (l:=(C.drop 256).take 11) i rfl hlt' (v:=.bool (D i)) (by rw[List.getElem?_take,if_pos hlt',List.getElem?_drop];exact hD i hlt') ?_)
   conv=>whnf
   repeat (refine aa.of ?_;conv=>whnf)
   generalize D i=q at *
   cases q
   all_goals
    conv=>whnf
    repeat (refine aa.of ?_;conv=>whnf)
    refine⟨i+1,⟨hlt',by dsimp only;omega⟩,?_,?_,ao.refl _⟩
    · conv=>whnf
      refine⟨?_,rfl⟩
      repeat (first | exact ax.nil | refine ax.any ?_ | refine ax.cons ?_ | refine ax.eq (by rw[wrap_i64 (by omega)];rfl) ?_ | refine ax.eq (by show SV.v (Value.int .i64 ((gz D (i+1):Nat):Int))=_;rw[hn];rfl) ?_ | refine ax.eq (by show _=SV.v (Value.int .i64 ((gz D (i+1):Nat):Int));rw[hn];first | rfl | (rw[wrap_i64 (by omega)];rfl)) ?_)
    · conv=>whnf
      exact trivial
 · have hie:i=11:=by
    simp[au] at hlt
    omega
   have hdo:oc D=(mX ((gz D i:Nat):Int) 1&&(!D 0 && !D 1)):=by
    rw[hie]
    unfold oc
    congr 1
    rw[aJ,Bool.eq_iff_iff]
    simp
    omega
   have h0:=hD 0 (by decide)
   have h1:=hD 1 (by decide)
   rw[hdo]
   generalize gz D i=dn at *
   generalize D 0=e0 at *
   generalize D 1=e1 at *
   generalize hq:mX (dn:Int) 1=q
   conv=>whnf
   repeat (refine aa.of ?_;conv=>whnf)
   rw[hq]
   cases q<;>cases e0<;>cases e1
   all_goals
    conv=>whnf
    repeat (refine aa.of ?_;conv=>whnf)
    repeat' (first
     | (refine And.intro ?_ ?_<;>conv=>whnf)
     | (refine an.same rfl ?_;conv=>whnf)
     | (refine an.row rfl ?_;conv=>whnf)
     | (refine an.call rfl ?_;conv=>whnf)
     | (refine aS.of ?_;conv=>whnf)
     | (refine aa.of ?_;conv=>whnf)
     | (refine ar.aj (ak.bE ae (t:=26) rfl rfl rfl 0 rfl (by decide) rfl ?_);conv=>whnf)
     | (refine ar.aj (ak.bE ae (t:=26) rfl rfl rfl 1 rfl (by decide) rfl ?_);conv=>whnf)
     | (refine ar.aj (ak.aE ae rfl rfl (ad:=⟨br,0,none⟩) (k:=256) (L:=C) (v:=_) (aG.row (by simp[Value.cells])) (fun _=>rfl) h0 ?_);conv=>whnf)
     | (refine ar.aj (ak.aE ae rfl rfl (ad:=⟨br,0,none⟩) (k:=257) (L:=C) (v:=_) (aG.row (by simp[Value.cells])) (fun _=>rfl) h1 ?_);conv=>whnf)
     | (refine an.mk ?_ ?_;(focus (first | exact ao.refl _ | exact ao.left _ _ | exact ao.of_le ⟨List.sublist_append_left _ _,fun w h=>h⟩ | exact ao.of_le ⟨List.Sublist.refl _,fun w h=>h.1⟩));conv=>whnf))
   all_goals exact⟨_,ao.refl _,rfl⟩
def jf (n:Nat→Nat) (i:Nat):Bool:=decide (16≤i∨n i=0)
theorem pQ (C:List Value) (S:Nat→Hd) (n:Nat→Nat) (hl:C.length=376) (hS : ∀ i,i<32→C[275+i]? = some ((S i).v (n i))):ah Tryz.prog 66 [.agg ⟨C⟩] (fun _=>True) (fun v F=>v = .bool (allI 32 (jf n))):=by
 refine ah.aK ae Tryz.func66 rfl (by decide) (n:=Tryz.f66.ntmps - 1) rfl rfl fun w0 av=>?_
 conv=>whnf
 repeat (refine aa.of ?_;conv=>whnf)
 refine ar.cA fun br=>?_
 conv=>whnf
 repeat (refine aa.of ?_;conv=>whnf)
 refine ar.aj (ak.aU ae rfl rfl (ad:=⟨br,0,none⟩) (k:=275) (L:=C) (m:=(C.drop 275).take 32) (aG.row (by simp[Value.cells])) rfl rfl (by rw[List.length_take,List.length_drop,hl];rfl) ?_)
 conv=>whnf
 repeat (refine aa.of ?_;conv=>whnf)
 refine az.loop ae (ι:=Nat) ([3,4]++List.range' 8 13) (fun x=>x≤32∧∀ j,j<x→jf n j=true)
  (fun x=>[(8,.v (.int .i64 (x:Int)))]) (fun _=>[]) (fun _=>⟨fun w=>True,[(br,Row.c C)]⟩)
  (fun x=>32 - x) 0 ⟨Nat.zero_le _,fun j h=>by omega⟩ ?_ rfl (ao.of_le ⟨by simp[Value.cells],fun w hw=>hw⟩) fun i hi=>?_
 · conv=>whnf
   repeat (first | exact ax.nil | refine ax.any ?_ | refine ax.cons ?_)
 obtain⟨hi,hall⟩:=hi
 conv=>whnf
 repeat (refine aa.of ?_;conv=>whnf)
 refine bT.split (fun hlt=>?_) (fun hlt=>?_)
 · have hlt':i<32:=by
    simp[au] at hlt
    omega
   have h2:=er (i:Int)
   have hok:jf n i=decide (16≤i∨n i=0):=rfl
   have hnext:jf n i=true→∀ j,j<i+1→jf n j=true:=fun hs j hj=>by
    rcases Nat.lt_or_eq_of_le (Nat.lt_succ_iff.1 hj) with h5 | h5
    · exact hall j h5
    · exact h5 ▸ hs
   obtain⟨q1,heq1⟩ : ∃ q,q=decide (16≤(i:Int)∧(i:Int)<32):=⟨_,rfl⟩
   rw[← heq1] at h2
   conv=>whnf
   repeat (refine aa.of ?_;conv=>whnf)
   refine ar.aj (ak.fF ae (t:=93) rfl rfl rfl rfl rfl (l:=(C.drop 275).take 32) i rfl hlt' (v:=(S i).v (n i)) (by rw[List.getElem?_take,if_pos hlt',List.getElem?_drop];exact hS i hlt') ?_)
   conv=>whnf
   repeat (refine aa.of ?_;conv=>whnf)
   repeat' (first
    | (refine And.intro ?_ ?_<;>conv=>whnf)
    | (refine an.same rfl ?_;conv=>whnf)
    | (refine an.row rfl ?_;conv=>whnf)
    | (refine an.call rfl ?_;conv=>whnf)
    | (refine aS.of ?_;conv=>whnf)
    | (refine aa.of ?_;conv=>whnf)
    | (refine aw.val h2 (fun w hw=>trivial) (fun v D hv=>?_);subst hv;conv=>whnf)
    | (split<;>conv=>whnf)
    | (refine an.mk ?_ ?_;(focus (first | exact ao.refl _ | exact ao.left _ _ | exact ao.of_le ⟨List.sublist_append_left _ _,fun w h=>h⟩ | exact ao.of_le ⟨List.Sublist.refl _,fun w h=>h.1⟩));conv=>whnf))
   all_goals first
    | (refine⟨_,ao.refl _,?_⟩;rw[aZ hlt' (by rw[hok];((try subst heq1);(try subst heq2);(try subst heq3);simp only[cond_true,cond_false,au,aJ,aH,aI,aO,aN,decide_eq_true_eq,decide_eq_false_iff_not,beq_iff_eq,bne_iff_ne,ne_eq,beq_eq_false_iff_ne,bne_eq_false_iff_eq,Bool.not_eq_true,Bool.not_eq_false,Bool.and_true,Bool.true_and,Bool.and_false,Bool.false_and,Bool.or_true,Bool.or_false,Bool.true_or,Bool.false_or,Bool.not_eq_true',Bool.not_eq_false',Bool.not_true,Bool.not_false] at *;first | omega | (simp_all;done) | (simp_all;omega)))];first | done | rfl)
    | (
     refine⟨i+1,⟨⟨hlt',hnext (by rw[hok];((try subst heq1);(try subst heq2);(try subst heq3);simp only[cond_true,cond_false,au,aJ,aH,aI,aO,aN,decide_eq_true_eq,decide_eq_false_iff_not,beq_iff_eq,bne_iff_ne,ne_eq,beq_eq_false_iff_ne,bne_eq_false_iff_eq,Bool.not_eq_true,Bool.not_eq_false,Bool.and_true,Bool.true_and,Bool.and_false,Bool.false_and,Bool.or_true,Bool.or_false,Bool.true_or,Bool.false_or,Bool.not_eq_true',Bool.not_eq_false',Bool.not_true,Bool.not_false] at *;first | omega | (simp_all;done) | (simp_all;omega)))⟩,by dsimp only;omega⟩,?_,?_,ao.refl _⟩;(conv=>whnf);refine⟨?_,rfl⟩;repeat (first | exact ax.nil | refine ax.any ?_ | refine ax.cons ?_ | refine ax.eq (by rw[wrap_i64 (by omega)];rfl) ?_)
     (conv=>whnf);exact trivial)
 · have hie:i=32:=by
    simp[au] at hlt
    omega
   subst hie
   conv=>whnf
   repeat (refine aa.of ?_;conv=>whnf)
   exact⟨_,ao.refl _,by rw[bH hall]⟩
structure Sl (α:Type) where
 h:Hd
 l:List α
instance {α:Type}:Inhabited (Sl α):=⟨⟨Hd.nil,[]⟩⟩
def Sl.v {α:Type} (x:Sl α):Value:=x.h.v x.l.length
structure Sl.Ok {α:Type} (x:Sl α):Prop where
 h:x.h.Ok x.l.length
 le:x.l.length≤140737488355328
def Sl.At {α:Type} (x:Sl α) (cf:α→List Value) (w:World):Prop:=af w x.h.a (x.l.flatMap cf)
def Sl.As {α:Type} (x:Sl α) (vf:α→Value) (w:World):Prop:=af w x.h.a (x.l.map vf)
structure zS where
 tag:Int
 frame:Int
 w:Bool
 opn:Bool
def qQ (x:zS):List Value:=[.int .i64 x.tag,.int .i64 x.frame,.bool x.w,.bool x.opn]
structure En where
 kind:Int
 task:Int
 call:Int
 a0:Int
 a1:Int
 a2:Int
 res:Int
 data:Bs
instance:Inhabited En:=⟨⟨0,0,0,0,0,0,0,default⟩⟩
def xX (x:En):List Value:=[.int .i64 x.kind,.int .i64 x.task,.int .i64 x.call,.int .i64 x.a0,.int .i64 x.a1,.int .i64 x.a2,.int .i64 x.res,de x.data]
structure Acc where
 task:Int
 dev:Int
 frame:Int
 frm:Int
 len:Int
 w:Bool
def vW (x:Acc):List Value:=[.int .i64 x.task,.int .i64 x.dev,.int .i64 x.frame,.int .i64 x.frm,.int .i64 x.len,.bool x.w]
structure zg where
 kind:Int
 task:Int
 other:Int
def aR (x:zg):List Value:=[.int .i64 x.kind,.int .i64 x.task,.int .i64 x.other]
structure bR where
 T:Nat→gn
 D:Nat→Bool
 q:Sl Mg
 pr:Sl Pr
 nx:Int
 cp:Sl Cp
 gr:Sl Gr
 ti:Sl Ti
 qu:Sl Int
 pg:Sl Bs
 sp:Nat→Sl Se
 wi:Sl pM
 bk:Sl Bs
 dc:pB
 tr:zS
 lk:wJ
 se:x7
 now:Int
 al:Sl Al
 M:Nat→Bool
 pe:Sl qc
 rc:Sl En
 ac:Sl Acc
 nw:Sl zg
structure dM (C:List Value) (s:bR):Prop where
 len:C.length=376
 one : ∀ v∈C,aW v=true
 T : ∀ i,i<32→(C.drop (i*8)).take 8=eP (s.T i)
 D : ∀ i,i<11→C[256+i]? = some (.bool (s.D i))
 po:(C.drop 267).take 2 = [s.q.v,s.pr.v]
 ca:(C.drop 269).take 2 = [.int .i64 s.nx,s.cp.v]
 gr:C[271]? = some s.gr.v
 ti:C[272]? = some s.ti.v
 qu:C[273]? = some s.qu.v
 pg:(C.drop 274).take 1 = [s.pg.v]
 sp : ∀ i,i<32→C[275+i]? = some (s.sp i).v
 wi:C[307]? = some s.wi.v
 dk:(C.drop 308).take 10=s.bk.v::cG s.dc
 tr:(C.drop 318).take 4=qQ s.tr
 lk:(C.drop 322).take 22=eQ s.lk
 se:(C.drop 344).take 21=fR s.se
 ck:(C.drop 365).take 2 = [.int .i64 s.now,s.al.v]
 iq:(C.drop 367).take 6 = [.bool (s.M 0),.bool (s.M 1),.bool (s.M 2),.bool (s.M 3),.bool (s.M 4),s.pe.v]
 rc:C[373]? = some s.rc.v
 ac:C[374]? = some s.ac.v
 nw:C[375]? = some s.nw.v
theorem dM.u4 {C:List Value} {s:bR} (h:dM C s):gI C s.T:=⟨h.len,h.T⟩
structure bR.p9 (s:bR):Prop where
 q:s.q.Ok
 pr:s.pr.Ok
 cp:s.cp.Ok
 gr:s.gr.Ok
 ti:s.ti.Ok
 qu:s.qu.Ok
 pg:s.pg.Ok
 sp : ∀ i,i<32→(s.sp i).Ok
 wi:s.wi.Ok
 bk:s.bk.Ok
 fh:s.lk.fh.Ok s.lk.fly.length
 fl:s.lk.fly.length≤140737488355328
 wh:s.lk.wh.Ok s.lk.wait.length
 wl:s.lk.wait.length≤140737488355328
 al:s.al.Ok
 pe:s.pe.Ok
 rc:s.rc.Ok
 ac:s.ac.Ok
 nw:s.nw.Ok
structure bR.Ok (s:bR):Prop extends s.p9 where
 gl:s.gr.l.length≤1000000
 sl : ∀ i,i<32→(s.sp i).l.length≤1000000
structure bR.Rows (s:bR) (w:World):Prop where
 q:s.q.At nB w
 pr:s.pr.At bW w
 cp:s.cp.At bB w
 gr:s.gr.At b_ w
 ti:s.ti.At cj w
 qu:s.qu.As bL w
 pg:s.pg.As de w
 sp : ∀ i,i<32→(s.sp i).At bx w
 wi:s.wi.At bc w
 bk:s.bk.As de w
 fl:af w s.lk.fh.a (s.lk.fly.flatMap bV)
 wt:af w s.lk.wh.a (s.lk.wait.map de)
 al:s.al.At fu w
 pe:s.pe.At cM w
 rc:s.rc.At xX w
 ac:s.ac.At vW w
theorem cellOf {C m:List Value} {k n:Nat} (h:(C.drop k).take n=m) {j:Nat} {v:Value} (hj:j<n) (hv:m[j]? = some v):C[k+j]? = some v:=by
 rw[← h,List.getElem?_take,if_pos hj,List.getElem?_drop] at hv
 exact hv
def dW (s:bR):Bool:=allI 32 (fun i=>allI (s.sp i).l.length (jg (s.sp i).l))&&(dX 96 s.pg.l&&(allI s.wi.l.length (iu s.wi.l)&&((dX 160 s.bk.l&&gh k4 true s.dc)&&(sW s.lk&&(tJ s.se&&((allI s.al.l.length (qU s.now s.al.l)&&decide (0≤s.now∧s.now≤1099511627776∧s.al.l.length≤32)) &&
 ((allI s.pe.l.length (kN s.pe.l)&&(decide (s.pe.l.length≤32) && !s.M 0))&&((allI s.pr.l.length (qA s.pr.l)&&(allI s.q.l.length (na s.pr.l s.q.l)&&decide (s.q.l.length≤400)))&&((allI s.cp.l.length (eV s.nx s.cp.l)&&decide (s.cp.l.length≤400∧1≤s.nx∧s.nx≤1099511627776)) &&
 ((allI s.gr.l.length (pG s.gr.l)&&(decide (s.gr.l.length≤200) && !((iF s.gr.l).any fun y=>false == y)))&&((allI s.ti.l.length (pd s.ti.l)&&decide (s.ti.l.length≤100))&&allI s.qu.l.length (qm s.qu.l))))))))))))
theorem sB (C:List Value) (s:bR) (hC:dM C s) (ho:s.Ok):ah Tryz.prog 61 [.agg ⟨C⟩] s.Rows (fun v F=>v = .bool (dW s)):=by
 have h1:=jG s.pg.l s.pg.h ho.pg.h ho.pg.le
 have h2:=kW s.wi.l s.wi.h ho.wi.h ho.wi.le
 have h3:=l0 s.bk.l s.bk.h ho.bk.h ho.bk.le s.dc
 have h4:=lW s.lk ho.fh ho.fl ho.wh ho.wl
 have h5:=jM s.se
 have h6:=k_ s.now s.al.l s.al.h ho.al.h ho.al.le
 have h7:=nk (s.M 0) (s.M 1) (s.M 2) (s.M 3) (s.M 4) s.pe.l s.pe.h ho.pe.h ho.pe.le
 have h8:=k6 s.q.l s.q.h ho.q.h ho.q.le s.pr.l s.pr.h ho.pr.h ho.pr.le
 have h9:=gw s.nx s.cp.l s.cp.h ho.cp.h ho.cp.le
 have h10:=nn s.gr.l s.gr.h ho.gr.h ho.gl
 have h11:=nr s.ti.l s.ti.h ho.ti.h ho.ti.le
 have h12:=lr s.qu.l s.qu.h ho.qu.h ho.qu.le
 unfold dW
 generalize dX 96 s.pg.l=q1 at *
 generalize allI s.wi.l.length (iu s.wi.l)=q2 at *
 generalize (dX 160 s.bk.l&&gh k4 true s.dc)=q3 at *
 generalize sW s.lk=q4 at *
 generalize tJ s.se=q5 at *
 generalize (allI s.al.l.length (qU s.now s.al.l)&&decide (0≤s.now∧s.now≤1099511627776∧s.al.l.length≤32))=q6 at *
 generalize (allI s.pe.l.length (kN s.pe.l)&&(decide (s.pe.l.length≤32) && !s.M 0))=q7 at *
 generalize (allI s.pr.l.length (qA s.pr.l)&&(allI s.q.l.length (na s.pr.l s.q.l)&&decide (s.q.l.length≤400)))=q8 at *
 generalize (allI s.cp.l.length (eV s.nx s.cp.l)&&decide (s.cp.l.length≤400∧1≤s.nx∧s.nx≤1099511627776))=q9 at *
 generalize (allI s.gr.l.length (pG s.gr.l)&&(decide (s.gr.l.length≤200) && !((iF s.gr.l).any fun y=>false == y)))=q10 at *
 generalize (allI s.ti.l.length (pd s.ti.l)&&decide (s.ti.l.length≤100))=q11 at *
 generalize allI s.qu.l.length (qm s.qu.l)=q12 at *
 refine ah.aK ae Tryz.func61 rfl (by decide) (n:=Tryz.f61.ntmps - 1) rfl rfl fun w0 av=>?_
 conv=>whnf
 repeat (refine aa.of ?_;conv=>whnf)
 refine ar.cA fun br=>?_
 conv=>whnf
 repeat (refine aa.of ?_;conv=>whnf)
 refine ar.aj (ak.aU ae rfl rfl (ad:=⟨br,0,none⟩) (k:=275) (L:=C) (m:=(C.drop 275).take 32) (aG.row (by simp[Value.cells])) rfl rfl (by rw[List.length_take,List.length_drop,hC.len];rfl) ?_)
 conv=>whnf
 repeat (refine aa.of ?_;conv=>whnf)
 refine az.loop ae (ι:=Nat) ([3,4]++List.range' 8 7) (fun x=>x≤32∧∀ j,j<x→allI (s.sp j).l.length (jg (s.sp j).l)=true)
  (fun x=>[(8,.v (.int .i64 (x:Int)))]) (fun _=>[]) (fun _=>⟨s.Rows,[(br,Row.c C)]⟩)
  (fun x=>32 - x) 0 ⟨Nat.zero_le _,fun j h=>by omega⟩ ?_ rfl (ao.of_le ⟨by simp[Value.cells],fun w hw=>hw⟩) fun i hi=>?_
 · conv=>whnf
   repeat (first | exact ax.nil | refine ax.any ?_ | refine ax.cons ?_)
 obtain⟨hi,hall⟩:=hi
 conv=>whnf
 repeat (refine aa.of ?_;conv=>whnf)
 refine bT.split (fun hlt=>?_) (fun hlt=>?_)
 · have hlt':i<32:=by
    simp[au] at hlt
    omega
   have h0:=ld (s.sp i).l (s.sp i).h (ho.sp i hlt').h (ho.sp i hlt').le
   obtain⟨q0,heq0⟩ : ∃ q,q=allI (s.sp i).l.length (jg (s.sp i).l):=⟨_,rfl⟩
   rw[← heq0] at h0
   conv=>whnf
   repeat (refine aa.of ?_;conv=>whnf)
   refine ar.aj (ak.fF ae (t:=93) rfl rfl rfl rfl rfl (l:=(C.drop 275).take 32) i rfl hlt' (v:=(s.sp i).h.v (s.sp i).l.length) (by rw[List.getElem?_take,if_pos hlt',List.getElem?_drop];exact hC.sp i hlt') ?_)
   conv=>whnf
   repeat (refine aa.of ?_;conv=>whnf)
   refine aw.val h0 (fun w hw=>hw.sp i hlt') (fun v D hv=>?_)
   subst hv
   cases q0
   · conv=>whnf
     repeat (refine aa.of ?_;conv=>whnf)
     exact⟨_,ao.refl _,by rw[aZ hlt' (by rw[← heq0]),Bool.false_and]⟩
   · conv=>whnf
     repeat (refine aa.of ?_;conv=>whnf)
     refine⟨i+1,⟨⟨hlt',fun j hj=>?_⟩,by dsimp only;omega⟩,?_,?_,ao.refl _⟩
     · rcases Nat.lt_or_eq_of_le (Nat.lt_succ_iff.1 hj) with h5 | h5
       · exact hall j h5
       · exact h5 ▸ heq0.symm
     · conv=>whnf
       refine⟨?_,rfl⟩
       repeat (first | exact ax.nil | refine ax.any ?_ | refine ax.cons ?_ | refine ax.eq (by rw[wrap_i64 (by omega)];rfl) ?_)
     · conv=>whnf
       exact trivial
 · have hie:i=32:=by
    simp[au] at hlt
    omega
   subst hie
   rw[bH hall,Bool.true_and]
   clear hall
   repeat' (first
    | (refine And.intro ?_ ?_<;>conv=>whnf)
    | (refine an.same rfl ?_;conv=>whnf)
    | (refine an.row rfl ?_;conv=>whnf)
    | (refine an.call rfl ?_;conv=>whnf)
    | (refine aS.of ?_;conv=>whnf)
    | (refine aa.of ?_;conv=>whnf)
    | (refine ar.aj (ak.aU ae rfl rfl (ad:=⟨br,0,none⟩) (k:=274) (L:=C) (m:=[s.pg.v]) (aG.row (by simp[Value.cells])) rfl hC.pg rfl ?_);conv=>whnf)
    | (refine ar.aj (ak.aE ae rfl rfl (ad:=⟨br,0,none⟩) (k:=307) (L:=C) (v:=s.wi.v) (aG.row (by simp[Value.cells])) (fun _=>rfl) hC.wi ?_);conv=>whnf)
    | (refine ar.aj (ak.aU ae rfl rfl (ad:=⟨br,0,none⟩) (k:=308) (L:=C) (m:=s.bk.v::cG s.dc) (aG.row (by simp[Value.cells])) rfl hC.dk rfl ?_);conv=>whnf)
    | (refine ar.aj (ak.aU ae rfl rfl (ad:=⟨br,0,none⟩) (k:=322) (L:=C) (m:=eQ s.lk) (aG.row (by simp[Value.cells])) rfl hC.lk rfl ?_);conv=>whnf)
    | (refine ar.aj (ak.aU ae rfl rfl (ad:=⟨br,0,none⟩) (k:=344) (L:=C) (m:=fR s.se) (aG.row (by simp[Value.cells])) rfl hC.se rfl ?_);conv=>whnf)
    | (refine ar.aj (ak.aU ae rfl rfl (ad:=⟨br,0,none⟩) (k:=365) (L:=C) (m:=[.int .i64 s.now,s.al.v]) (aG.row (by simp[Value.cells])) rfl hC.ck rfl ?_);conv=>whnf)
    | (refine ar.aj (ak.aU ae rfl rfl (ad:=⟨br,0,none⟩) (k:=367) (L:=C) (m:=[.bool (s.M 0),.bool (s.M 1),.bool (s.M 2),.bool (s.M 3),.bool (s.M 4),s.pe.v]) (aG.row (by simp[Value.cells])) rfl hC.iq rfl ?_);conv=>whnf)
    | (refine ar.aj (ak.aU ae rfl rfl (ad:=⟨br,0,none⟩) (k:=267) (L:=C) (m:=[s.q.v,s.pr.v]) (aG.row (by simp[Value.cells])) rfl hC.po rfl ?_);conv=>whnf)
    | (refine ar.aj (ak.aU ae rfl rfl (ad:=⟨br,0,none⟩) (k:=269) (L:=C) (m:=[.int .i64 s.nx,s.cp.v]) (aG.row (by simp[Value.cells])) rfl hC.ca rfl ?_);conv=>whnf)
    | (refine ar.aj (ak.aE ae rfl rfl (ad:=⟨br,0,none⟩) (k:=271) (L:=C) (v:=s.gr.v) (aG.row (by simp[Value.cells])) (fun _=>rfl) hC.gr ?_);conv=>whnf)
    | (refine ar.aj (ak.aE ae rfl rfl (ad:=⟨br,0,none⟩) (k:=272) (L:=C) (v:=s.ti.v) (aG.row (by simp[Value.cells])) (fun _=>rfl) hC.ti ?_);conv=>whnf)
    | (refine ar.aj (ak.aE ae rfl rfl (ad:=⟨br,0,none⟩) (k:=273) (L:=C) (v:=s.qu.v) (aG.row (by simp[Value.cells])) (fun _=>rfl) hC.qu ?_);conv=>whnf)
    | (refine aw.val h1 (fun w hw=>hw.pg) (fun v D hv=>?_);subst hv;cases q1<;>conv=>whnf)
    | (refine aw.val h2 (fun w hw=>hw.wi) (fun v D hv=>?_);subst hv;cases q2<;>conv=>whnf)
    | (refine aw.val h3 (fun w hw=>hw.bk) (fun v D hv=>?_);subst hv;cases q3<;>conv=>whnf)
    | (refine aw.val h4 (fun w hw=>⟨hw.fl,hw.wt⟩) (fun v D hv=>?_);subst hv;cases q4<;>conv=>whnf)
    | (refine aw.val h5 (fun w hw=>trivial) (fun v D hv=>?_);subst hv;cases q5<;>conv=>whnf)
    | (refine aw.val h6 (fun w hw=>hw.al) (fun v D hv=>?_);subst hv;cases q6<;>conv=>whnf)
    | (refine aw.val h7 (fun w hw=>hw.pe) (fun v D hv=>?_);subst hv;cases q7<;>conv=>whnf)
    | (refine aw.val h8 (fun w hw=>⟨hw.pr,hw.q⟩) (fun v D hv=>?_);subst hv;cases q8<;>conv=>whnf)
    | (refine aw.val h9 (fun w hw=>hw.cp) (fun v D hv=>?_);subst hv;cases q9<;>conv=>whnf)
    | (refine aw.val h10 (fun w hw=>hw.gr) (fun v D hv=>?_);subst hv;cases q10<;>conv=>whnf)
    | (refine aw.val h11 (fun w hw=>hw.ti) (fun v D hv=>?_);subst hv;cases q11<;>conv=>whnf)
    | (refine aw.val h12 (fun w hw=>hw.qu) (fun v D hv=>?_);subst hv;conv=>whnf)
    | (refine an.mk ?_ ?_;(focus (first | exact ao.refl _ | exact ao.left _ _ | exact ao.of_le ⟨List.sublist_append_left _ _,fun w h=>h⟩ | exact ao.of_le ⟨List.Sublist.refl _,fun w h=>h.1⟩));conv=>whnf))
   all_goals exact⟨_,ao.refl _,by first | rfl | (congr 1;simp;done) | (cases q12<;>rfl)⟩
def tH (T:Nat→gn) (i:Nat):Bool:=kr (T i).kind 0
def lq (T:Nat→gn):Nat→Nat
 | 0=>0
 | i+1=>lq T i+(if tH T i then 1 else 0)
theorem tF (T:Nat→gn) : ∀ i,lq T i≤i
 | 0=>Nat.le_refl _
 | i+1=>by
  have:=tF T i
  unfold lq
  split<;>omega
def vo (T:Nat→gn) (q:List Int) (i:Nat):Bool:=!tH T i||q.any fun y=>(i:Int) == y
def lI (s:bR):Bool:=allI 32 (vo s.T s.qu.l)&&decide (s.qu.l.length=lq s.T 32)
theorem ri (C:List Value) (s:bR) (hC:dM C s) (ho:s.Ok):ah Tryz.prog 64 [.agg ⟨C⟩] s.Rows (fun v F=>v = .bool (lI s)):=by
 refine ah.aK ae Tryz.func64 rfl (by decide) (n:=Tryz.f64.ntmps - 1) rfl rfl fun w0 av=>?_
 conv=>whnf
 repeat (refine aa.of ?_;conv=>whnf)
 refine ar.cA fun br=>?_
 conv=>whnf
 repeat (refine aa.of ?_;conv=>whnf)
 refine az.loop ae (ι:=Nat) (List.range' 3 17) (fun x=>x≤32∧∀ j,j<x→vo s.T s.qu.l j=true)
  (fun x=>[(3,.v (.int .i64 (lq s.T x:Int))),(5,.v (.int .i64 (x:Int)))]) (fun _=>[]) (fun _=>⟨s.Rows,[(br,Row.c C)]⟩)
  (fun x=>32 - x) 0 ⟨Nat.zero_le _,fun j h=>by omega⟩ ?_ rfl (ao.of_le ⟨by simp[Value.cells],fun w hw=>hw⟩) fun i hi=>?_
 · conv=>whnf
   repeat (first | exact ax.nil | refine ax.any ?_ | refine ax.cons ?_)
 obtain⟨hi,hall⟩:=hi
 have hle:=tF s.T i
 conv=>whnf
 repeat (refine aa.of ?_;conv=>whnf)
 refine bT.split (fun hlt=>?_) (fun hlt=>?_)
 · have hlt':i<32:=by
    simp[au] at hlt
    omega
   have h2:=eZ C s.T hC.u4 i hlt'
   have h3:=nD (i:Int) s.qu.l s.qu.h ho.qu.h ho.qu.le
   have hnext:vo s.T s.qu.l i=true→∀ j,j<i+1→vo s.T s.qu.l j=true:=fun hs j hj=>by
    rcases Nat.lt_or_eq_of_le (Nat.lt_succ_iff.1 hj) with h5 | h5
    · exact hall j h5
    · exact h5 ▸ hs
   have hok:vo s.T s.qu.l i=(!tH s.T i||s.qu.l.any fun y=>(i:Int) == y):=rfl
   have hn:lq s.T (i+1)=lq s.T i+(if tH s.T i then 1 else 0):=rfl
   rw[show kr (s.T i).kind 0=tH s.T i from rfl] at h2
   generalize tH s.T i=q1 at *
   generalize (s.qu.l.any fun y=>(i:Int) == y)=q2 at *
   conv=>whnf
   repeat (refine aa.of ?_;conv=>whnf)
   refine ar.aj (ak.aU ae rfl rfl (ad:=⟨br,0,none⟩) (k:=0) (L:=C) (m:=C) (aG.row (by simp[Value.cells])) rfl (by rw[List.drop_zero];exact List.take_of_length_le (by rw[hC.len];exact Nat.le_refl _)) hC.len ?_)
   conv=>whnf
   repeat (refine aa.of ?_;conv=>whnf)
   refine aw.val h2 (fun w hw=>trivial) (fun v D hv=>?_)
   subst hv
   cases q1
   · conv=>whnf
     repeat (refine aa.of ?_;conv=>whnf)
     refine⟨i+1,⟨⟨hlt',hnext (by rw[hok];rfl)⟩,by dsimp only;omega⟩,?_,?_,ao.refl _⟩
     · conv=>whnf
       refine⟨?_,rfl⟩
       repeat (first | exact ax.nil | refine ax.any ?_ | refine ax.cons ?_ | refine ax.eq (by rw[wrap_i64 (by omega)];rfl) ?_ | refine ax.eq (by show SV.v (Value.int .i64 ((lq s.T (i+1):Nat):Int))=_;rw[hn];rfl) ?_ | refine ax.eq (by show _=SV.v (Value.int .i64 ((lq s.T (i+1):Nat):Int));rw[hn];rfl) ?_)
     · conv=>whnf
       exact trivial
   · conv=>whnf
     repeat (refine aa.of ?_;conv=>whnf)
     refine ar.aj (ak.aE ae rfl rfl (ad:=⟨br,0,none⟩) (k:=273) (L:=C) (v:=s.qu.v) (aG.row (by simp[Value.cells])) (fun _=>rfl) hC.qu ?_)
     conv=>whnf
     repeat (refine aa.of ?_;conv=>whnf)
     refine aw.val h3 (fun w hw=>hw.qu) (fun v D hv=>?_)
     subst hv
     cases q2
     · conv=>whnf
       repeat (refine aa.of ?_;conv=>whnf)
       exact⟨_,ao.refl _,by unfold lI;rw[aZ hlt' (by rw[hok];rfl),Bool.false_and]⟩
     · conv=>whnf
       repeat (refine aa.of ?_;conv=>whnf)
       refine⟨i+1,⟨⟨hlt',hnext (by rw[hok];rfl)⟩,by dsimp only;omega⟩,?_,?_,ao.refl _⟩
       · conv=>whnf
         refine⟨?_,rfl⟩
         repeat (first | exact ax.nil | refine ax.any ?_ | refine ax.cons ?_ | refine ax.eq (by rw[wrap_i64 (by omega)];rfl) ?_ | refine ax.eq (by show SV.v (Value.int .i64 ((lq s.T (i+1):Nat):Int))=_;rw[hn];first | rfl | (rw[wrap_i64 (by omega)];rfl)) ?_ | refine ax.eq (by show _=SV.v (Value.int .i64 ((lq s.T (i+1):Nat):Int));rw[hn];first | rfl | (rw[wrap_i64 (by omega)];rfl)) ?_)
       · conv=>whnf
         exact trivial
 · have hie:i=32:=by
    simp[au] at hlt
    omega
   subst hie
   unfold lI
   rw[bH hall,Bool.true_and]
   generalize lq s.T 32=n at *
   conv=>whnf
   repeat (refine aa.of ?_;conv=>whnf)
   refine ar.aj (ak.aE ae rfl rfl (ad:=⟨br,0,none⟩) (k:=273) (L:=C) (v:=s.qu.v) (aG.row (by simp[Value.cells])) (fun _=>rfl) hC.qu ?_)
   conv=>whnf
   repeat (refine aa.of ?_;conv=>whnf)
   exact⟨_,ao.refl _,by congr 1;rw[aO,Bool.eq_iff_iff];simp;omega⟩
end Go.Proofs.YtlnhdpjnlffaoaaGreatDoor
