/- Parts of the proof: AbW, RaA, RaB, RaC, RaD, RaH, RaK, RaL, RaW, RbA, RaS, RbB, RbL, RbM, RaM, RaN, RaO, RaP, RaI, RaJ, RaE, RaF, RaG, RaQ. -/
import Derived.Test.YtlnhdpjnlffaoaaGreatDoorQS
import Derived.Test.YtlnhdpjnlffaoaaGreatDoorQP
import Derived.Test.YtlnhdpjnlffaoaaGreatDoorQD
import Derived.Test.YtlnhdpjnlffaoaaGreatDoorQH
import Derived.Test.YtlnhdpjnlffaoaaGreatDoorQM
import Derived.Test.YtlnhdpjnlffaoaaGreatDoorQF
import Derived.Test.YtlnhdpjnlffaoaaGreatDoorQJ
namespace Go.Proofs.YtlnhdpjnlffaoaaGreatDoor
open Go Go.Sx
set_option maxRecDepth 100000
set_option maxHeartbeats 4000000
set_option linter.unusedVariables false
set_option linter.unusedSimpArgs false
theorem bW.Wide.ok {s:bW} (h:s.Wide) (hf:iu s 32≤3000):s.Ok:=
 ⟨h,by have:=zK s;unfold we at this;omega,fun i hi=>by have:=Bv s hi;omega⟩
theorem bW.Wide.small {s:bW} (h:s.Wide) (hf:iu s 32≤3000) (hp:s.pe.l.length≤40) (hl:s.lk.fly.length≤4398046511104):s.Small:=by
 have:=zK s
 unfold we at this
 exact⟨by omega,by omega,by omega,by omega,by omega,hl,by omega,by omega,by omega⟩
theorem Af (s:bW) (pr cp gr ti:Hd) (sp:Nat→Hd) (wi fh al pe nw:Hd):dA (s.zP pr cp gr ti sp wi fh al pe nw)=dA s:=by
 unfold bW.zP
 rfl
theorem rW (n:Int):af Tryz.prog 216 [.int .i64 n] (fun _=>True) (fun v F=>v = .bool (decide (0≤n∧n<32))):=by
 refine af.aG ae Tryz.func216 rfl (by decide) (n:=Tryz.f216.ntmps - 1) rfl rfl fun w0 av=>?_
 conv=>whnf
 repeat (refine aa.of ?_;conv=>whnf)
 repeat' (first
  | (refine cj.mk ?_ ?_;(focus (first | exact ax.refl _ | exact ax.left _ _ | exact ax.of_le ⟨List.sublist_append_left _ _,fun w h=>h⟩ | exact ax.of_le ⟨List.Sublist.refl _,fun w h=>h.1⟩));conv=>whnf))
 all_goals refine⟨_,ax.refl _,?_⟩
 all_goals first | rfl | (congr 1;rw[Bool.eq_iff_iff];simp_all [aD,ao,aC,aB,aA,aE,and_assoc];done)
theorem pw (x:Se):af Tryz.prog 144 [.agg ⟨bT x⟩] (fun _=>True) (fun v F=>v = .bool (BS x)):=by
 have h1:=rW x.page
 unfold BS
 obtain⟨q,hq⟩ : ∃ q,decide (0≤x.page∧x.page<32)=q:=⟨_,rfl⟩
 rw[hq] at h1
 refine af.aG ae Tryz.func144 rfl (by decide) (n:=Tryz.f144.ntmps - 1) rfl rfl fun w0 av=>?_
 conv=>whnf
 repeat (refine aa.of ?_;conv=>whnf)
 intro b0
 conv=>whnf
 repeat (refine aa.of ?_;conv=>whnf)
 repeat' (first
  | (refine aa.of ?_;conv=>whnf)
  | (refine aw.val h1 (fun w hw=>trivial) (fun v D hv=>?_);subst hv;cases q<;>conv=>whnf))
 all_goals refine⟨_,ax.refl _,?_⟩
 all_goals first | rfl | (congr 1;rw[Bool.eq_iff_iff];simp_all [aD,ao,aC,aB,aA,aE,and_assoc];done) | (congr 1;rw[Bool.eq_iff_iff];simp_all [aD,ao,aC,aB,aA,aE,and_assoc];omega)
theorem qL (l:List Se) (h:Hd) (hh:h.Ok l.length) (hl:l.length≤140737488355328) :
 af Tryz.prog 81 [h.v l.length] (fun w=>ai w h.a (l.flatMap bT)) (fun v F=>v = .bool (allI l.length (gM l))):=by
 refine af.aG ae Tryz.func81 rfl (by decide) (n:=Tryz.f81.ntmps - 1) rfl rfl fun w0 av=>?_
 conv=>whnf
 repeat (refine aa.of ?_;conv=>whnf)
 refine az.loop ae (ι:=Nat) (List.range' 3 31) (fun x=>x≤l.length∧∀ j,j<x→gM l j=true)
  (fun x=>[(3,.v (.int .i64 (x:Int)))]) (fun _=>[]) (fun _=>⟨fun w=>ai w h.a (l.flatMap bT),[]⟩)
  (fun x=>l.length - x) 0 ⟨Nat.zero_le _,fun j h=>by omega⟩ ?_ rfl (ax.of_le ⟨by simp[Value.cells],fun w hw=>hw⟩) fun i hi=>?_
 · conv=>whnf
   repeat (first | exact au.nil | refine au.any ?_ | refine au.cons ?_)
 obtain⟨hi,hall⟩:=hi
 conv=>whnf
 repeat (refine aa.of ?_;conv=>whnf)
 refine bF.split (fun hlt=>?_) (fun hlt=>?_)
 · have hlt':i<l.length:=by
    simp only[ao,decide_eq_true_eq] at hlt
    omega
   have hok:gM l i=(BS l[i]&&(decide (i=0)||decide (l[i - 1]!.page<l[i].page))):=by
    unfold gM
    rw[bn hlt']
   have hnext:gM l i=true→∀ j,j<i+1→gM l j=true:=fun hs j hj=>by
    rcases Nat.lt_or_eq_of_le (Nat.lt_succ_iff.1 hj) with h5 | h5
    · exact hall j h5
    · exact h5 ▸ hs
   have hq1:=pw l[i]
   obtain⟨q1,heq1⟩ : ∃ q,q=BS l[i]:=⟨_,rfl⟩
   rw[← heq1] at hq1
   conv=>whnf
   repeat (refine aa.of ?_;conv=>whnf)
   refine az.draw ae mixed rfl rfl ?_
   conv=>whnf
   rcases Nat.eq_zero_or_pos i with h0 | h0
   · have hg:gY (i:Int) 0=false:=by simp[aB];omega
     repeat' (first
      | (rw[hg];conv=>whnf)
      | (refine aw.val hq1 (fun w hw=>trivial) (fun v D hv=>?_);subst hv;cases q1<;>conv=>whnf)
      | (refine ak.index ae (t:=44) rfl rfl rfl (by first | omega) (by first | omega) hh.nil fun ad had=>?_;conv=>whnf)
      | (refine ak.aQ ae rfl rfl (ad:=ad) (k:=i*3) (L:=l.flatMap bT) (m:=bT l[i]) (.fact fun w hw=>had ▸ hw) ?adr (a8 (cf:=bT) (z:=3) (fun _=>rfl) hlt') rfl ?_;(case adr=>first | rfl);conv=>whnf))
     all_goals first
      | (refine⟨_,ax.refl _,?_⟩;rw[aJ hlt' (by rw[hok];((try subst heq1);(try subst heq2);(try subst heq3);simp only[cond_true,cond_false,ao,aC,aB,aD,aA,aE,decide_eq_true_eq,decide_eq_false_iff_not,beq_iff_eq,bne_iff_ne,ne_eq,beq_eq_false_iff_ne,bne_eq_false_iff_eq,Bool.not_eq_true,Bool.not_eq_false,Bool.and_true,Bool.true_and,Bool.and_false,Bool.false_and,Bool.or_true,Bool.or_false,Bool.true_or,Bool.false_or,Bool.not_eq_true',Bool.not_eq_false',Bool.not_true,Bool.not_false] at *;first | (simp_all;done)))];first | done | rfl)
      | (
       refine⟨i+1,⟨⟨hlt',hnext (by rw[hok];((try subst heq1);(try subst heq2);(try subst heq3);simp only[cond_true,cond_false,ao,aC,aB,aD,aA,aE,decide_eq_true_eq,decide_eq_false_iff_not,beq_iff_eq,bne_iff_ne,ne_eq,beq_eq_false_iff_ne,bne_eq_false_iff_eq,Bool.not_eq_true,Bool.not_eq_false,Bool.and_true,Bool.true_and,Bool.and_false,Bool.false_and,Bool.or_true,Bool.or_false,Bool.true_or,Bool.false_or,Bool.not_eq_true',Bool.not_eq_false',Bool.not_true,Bool.not_false] at *;first | (simp_all;done)))⟩,by dsimp only;omega⟩,?_,?_,ax.refl _⟩;(conv=>whnf);refine⟨?_,rfl⟩;repeat (first | exact au.nil | refine au.any ?_ | refine au.cons ?_ | refine au.eq (by rw[wrap_i64 (by omega)];rfl) ?_)
       (conv=>whnf);exact trivial)
   · have hg:gY (i:Int) 0=true:=by simp[aB];omega
     have hj:i - 1<l.length:=by omega
     have hw1:IntKind.i64.wrap ((i:Int) - 1)=((i - 1:Nat):Int):=by
      rw[wrap_i64 (by omega)]
      omega
     try rw[bn hj] at hok
     repeat' (first
      | (rw[hg];conv=>whnf)
      | (refine aw.val hq1 (fun w hw=>trivial) (fun v D hv=>?_);subst hv;cases q1<;>conv=>whnf)
      | (refine ak.index ae (t:=44) rfl rfl rfl (by first | omega) (by first | omega) hh.nil fun ad had=>?_;conv=>whnf)
      | (refine ak.aQ ae rfl rfl (ad:=ad) (k:=i*3) (L:=l.flatMap bT) (m:=bT l[i]) (.fact fun w hw=>had ▸ hw) ?adr (a8 (cf:=bT) (z:=3) (fun _=>rfl) hlt') rfl ?_;(case adr=>first | rfl);conv=>whnf)
      | (refine ak.aH ae rfl rfl (ad:=ad) (k:=i*3+0) (L:=l.flatMap bT) (v:=.int .i64 l[i].page) (.fact fun w hw=>had ▸ hw) ?adr (bY (cf:=bT) (z:=3) (fun _=>rfl) hlt' (by decide)) ?_;(case adr=>intro hs;first | rfl | (rw[hw1];rfl));conv=>whnf)
      | (refine ak.aH ae rfl rfl (ad:=ad) (k:=(i - 1)*3+0) (L:=l.flatMap bT) (v:=.int .i64 l[i - 1].page) (.fact fun w hw=>had ▸ hw) ?adr (bY (cf:=bT) (z:=3) (fun _=>rfl) hj (by decide)) ?_;(case adr=>intro hs;first | rfl | (rw[hw1,Addr.bD hs];rfl));conv=>whnf)
      | (split<;>conv=>whnf))
     all_goals first
      | (refine⟨_,ax.refl _,?_⟩;rw[aJ hlt' (by rw[hok];((try subst heq1);(try subst heq2);(try subst heq3);simp only[cond_true,cond_false,ao,aC,aB,aD,aA,aE,decide_eq_true_eq,decide_eq_false_iff_not,beq_iff_eq,bne_iff_ne,ne_eq,beq_eq_false_iff_ne,bne_eq_false_iff_eq,Bool.not_eq_true,Bool.not_eq_false,Bool.and_true,Bool.true_and,Bool.and_false,Bool.false_and,Bool.or_true,Bool.or_false,Bool.true_or,Bool.false_or,Bool.not_eq_true',Bool.not_eq_false',Bool.not_true,Bool.not_false] at *;first | (simp_all;done) | (simp_all;omega)))];first | done | rfl)
      | (
       refine⟨i+1,⟨⟨hlt',hnext (by rw[hok];((try subst heq1);(try subst heq2);(try subst heq3);simp only[cond_true,cond_false,ao,aC,aB,aD,aA,aE,decide_eq_true_eq,decide_eq_false_iff_not,beq_iff_eq,bne_iff_ne,ne_eq,beq_eq_false_iff_ne,bne_eq_false_iff_eq,Bool.not_eq_true,Bool.not_eq_false,Bool.and_true,Bool.true_and,Bool.and_false,Bool.false_and,Bool.or_true,Bool.or_false,Bool.true_or,Bool.false_or,Bool.not_eq_true',Bool.not_eq_false',Bool.not_true,Bool.not_false] at *;first | (simp_all;done)))⟩,by dsimp only;omega⟩,?_,?_,ax.refl _⟩;(conv=>whnf);refine⟨?_,rfl⟩;repeat (first | exact au.nil | refine au.any ?_ | refine au.cons ?_ | refine au.eq (by rw[wrap_i64 (by omega)];rfl) ?_)
       (conv=>whnf);exact trivial)
 · have hie:i=l.length:=by
    simp only[ao,decide_eq_false_iff_not] at hlt
    omega
   subst hie
   conv=>whnf
   repeat (refine aa.of ?_;conv=>whnf)
   exact⟨_,ax.refl _,by rw[aV hall]⟩
theorem qg (now:Int) (l:List Al) (h:Hd) (hh:h.Ok l.length) (hl:l.length≤140737488355328) :
 af Tryz.prog 85 [.agg ⟨[.int .i64 now,h.v l.length]⟩] (fun w=>ai w h.a (l.flatMap gu)) (fun v F=>v = .bool (allI l.length (kj now l)&&decide (0≤now∧now≤1099511627776∧l.length≤32))):=by
 refine af.aG ae Tryz.func85 rfl (by decide) (n:=Tryz.f85.ntmps - 1) rfl rfl fun w0 av=>?_
 conv=>whnf
 repeat (refine aa.of ?_;conv=>whnf)
 intro b0
 conv=>whnf
 repeat (refine aa.of ?_;conv=>whnf)
 refine az.loop ae (ι:=Nat) ([3,4]++List.range' 5 43) (fun x=>x≤l.length∧∀ j,j<x→kj now l j=true)
  (fun x=>[(3,.v (.int .i64 (x:Int)))]) (fun _=>[[.int .i64 now,h.v l.length]]) (fun _=>⟨fun w=>ai w h.a (l.flatMap gu),[]⟩)
  (fun x=>l.length - x) 0 ⟨Nat.zero_le _,fun j h=>by omega⟩ ?_ rfl (ax.of_le ⟨by simp[Value.cells],fun w hw=>hw⟩) fun i hi=>?_
 · conv=>whnf
   repeat (first | exact au.nil | refine au.any ?_ | refine au.cons ?_)
 obtain⟨hi,hall⟩:=hi
 conv=>whnf
 repeat (refine aa.of ?_;conv=>whnf)
 refine bF.split (fun hlt=>?_) (fun hlt=>?_)
 · have hlt':i<l.length:=by
    simp only[ao,decide_eq_true_eq] at hlt
    omega
   have hok:kj now l i=(decide (0≤l[i].id∧(0<i→l[i - 1]!.id<l[i].id)∧now<l[i].at'∧l[i].at'≤1099511627776)):=by
    unfold kj
    rw[bn hlt']
   have hnext:kj now l i=true→∀ j,j<i+1→kj now l j=true:=fun hs j hj=>by
    rcases Nat.lt_or_eq_of_le (Nat.lt_succ_iff.1 hj) with h5 | h5
    · exact hall j h5
    · exact h5 ▸ hs
   repeat' (first
    | (refine ar.aj (ak.index ae (t:=63) rfl rfl rfl (by first | omega) (by first | omega) hh.nil fun ad had=>?_);conv=>whnf)
    | (refine ar.aj (ak.aQ ae rfl rfl (ad:=ad) (k:=i*2) (L:=l.flatMap gu) (m:=gu l[i]) (.fact fun w hw=>had ▸ hw) ?adr (a8 (cf:=gu) (z:=2) (fun _=>rfl) hlt') rfl ?_);(case adr=>first | rfl);conv=>whnf))
   intro b1
   conv=>whnf
   repeat (refine aa.of ?_;conv=>whnf)
   refine az.draw ae mixed rfl rfl ?_
   conv=>whnf
   rcases Nat.eq_zero_or_pos i with h0 | h0
   · have hg:gY (i:Int) 0=false:=by simp[aB];omega
     repeat' (first
      | (rw[hg];conv=>whnf)
      | (split<;>conv=>whnf))
     all_goals first
      | (refine⟨_,ax.refl _,?_⟩;rw[aJ hlt' (by rw[hok];((try subst heq1);(try subst heq2);(try subst heq3);simp only[cond_true,cond_false,ao,aC,aB,aD,aA,aE,decide_eq_true_eq,decide_eq_false_iff_not,beq_iff_eq,bne_iff_ne,ne_eq,beq_eq_false_iff_ne,bne_eq_false_iff_eq,Bool.not_eq_true,Bool.not_eq_false,Bool.and_true,Bool.true_and,Bool.and_false,Bool.false_and,Bool.or_true,Bool.or_false,Bool.true_or,Bool.false_or,Bool.not_eq_true',Bool.not_eq_false',Bool.not_true,Bool.not_false] at *;first | omega))];first | done | rfl)
      | (
       refine⟨i+1,⟨⟨hlt',hnext (by rw[hok];((try subst heq1);(try subst heq2);(try subst heq3);simp only[cond_true,cond_false,ao,aC,aB,aD,aA,aE,decide_eq_true_eq,decide_eq_false_iff_not,beq_iff_eq,bne_iff_ne,ne_eq,beq_eq_false_iff_ne,bne_eq_false_iff_eq,Bool.not_eq_true,Bool.not_eq_false,Bool.and_true,Bool.true_and,Bool.and_false,Bool.false_and,Bool.or_true,Bool.or_false,Bool.true_or,Bool.false_or,Bool.not_eq_true',Bool.not_eq_false',Bool.not_true,Bool.not_false] at *;first | omega))⟩,by dsimp only;omega⟩,?_,?_,ax.refl _⟩;(conv=>whnf);refine⟨?_,rfl⟩;repeat (first | exact au.nil | refine au.any ?_ | refine au.cons ?_ | refine au.eq (by rw[wrap_i64 (by omega)];rfl) ?_)
       (conv=>whnf);exact⟨⟨rfl,rfl⟩,trivial⟩)
   · have hg:gY (i:Int) 0=true:=by simp[aB];omega
     have hj:i - 1<l.length:=by omega
     have hw1:IntKind.i64.wrap ((i:Int) - 1)=((i - 1:Nat):Int):=by
      rw[wrap_i64 (by omega)]
      omega
     try rw[bn hj] at hok
     repeat' (first
      | (rw[hg];conv=>whnf)
      | (refine ak.index ae (t:=63) rfl rfl rfl (by first | omega) (by first | omega) hh.nil fun ad had=>?_;conv=>whnf)
      | (refine ak.aH ae rfl rfl (ad:=ad) (k:=(i - 1)*2+0) (L:=l.flatMap gu) (v:=.int .i64 l[i - 1].id) (.fact fun w hw=>had ▸ hw) ?adr (bY (cf:=gu) (z:=2) (fun _=>rfl) hj (by decide)) ?_;(case adr=>intro hs;first | rfl | (rw[hw1,Addr.bD hs];rfl));conv=>whnf)
      | (split<;>conv=>whnf))
     all_goals first
      | (refine⟨_,ax.refl _,?_⟩;rw[aJ hlt' (by rw[hok];((try subst heq1);(try subst heq2);(try subst heq3);simp only[cond_true,cond_false,ao,aC,aB,aD,aA,aE,decide_eq_true_eq,decide_eq_false_iff_not,beq_iff_eq,bne_iff_ne,ne_eq,beq_eq_false_iff_ne,bne_eq_false_iff_eq,Bool.not_eq_true,Bool.not_eq_false,Bool.and_true,Bool.true_and,Bool.and_false,Bool.false_and,Bool.or_true,Bool.or_false,Bool.true_or,Bool.false_or,Bool.not_eq_true',Bool.not_eq_false',Bool.not_true,Bool.not_false] at *;first | omega))];first | done | rfl)
      | (
       refine⟨i+1,⟨⟨hlt',hnext (by rw[hok];((try subst heq1);(try subst heq2);(try subst heq3);simp only[cond_true,cond_false,ao,aC,aB,aD,aA,aE,decide_eq_true_eq,decide_eq_false_iff_not,beq_iff_eq,bne_iff_ne,ne_eq,beq_eq_false_iff_ne,bne_eq_false_iff_eq,Bool.not_eq_true,Bool.not_eq_false,Bool.and_true,Bool.true_and,Bool.and_false,Bool.false_and,Bool.or_true,Bool.or_false,Bool.true_or,Bool.false_or,Bool.not_eq_true',Bool.not_eq_false',Bool.not_true,Bool.not_false] at *;first | omega))⟩,by dsimp only;omega⟩,?_,?_,ax.refl _⟩;(conv=>whnf);refine⟨?_,rfl⟩;repeat (first | exact au.nil | refine au.any ?_ | refine au.cons ?_ | refine au.eq (by rw[wrap_i64 (by omega)];rfl) ?_)
       (conv=>whnf);exact⟨⟨rfl,rfl⟩,trivial⟩)
 · have hie:i=l.length:=by
    simp only[ao,decide_eq_false_iff_not] at hlt
    omega
   subst hie
   conv=>whnf
   repeat (refine aa.of ?_;conv=>whnf)
   refine⟨_,ax.refl _,?_⟩
   rw[aV hall,Bool.true_and]
   congr 1
   rw[Bool.eq_iff_iff]
   simp[aD,aC]
   try omega
theorem qj (n:Int):af Tryz.prog 162 [.int .i64 n] (fun _=>True) (fun v F=>v = .bool (decide (1≤n∧n≤10))):=by
 refine af.aG ae Tryz.func162 rfl (by decide) (n:=Tryz.f162.ntmps - 1) rfl rfl fun w0 av=>?_
 conv=>whnf
 repeat (refine aa.of ?_;conv=>whnf)
 repeat' (first
  | (refine cj.mk ?_ ?_;(focus (first | exact ax.refl _ | exact ax.left _ _ | exact ax.of_le ⟨List.sublist_append_left _ _,fun w h=>h⟩ | exact ax.of_le ⟨List.Sublist.refl _,fun w h=>h.1⟩));conv=>whnf))
 all_goals refine⟨_,ax.refl _,?_⟩
 all_goals first | rfl | (congr 1;rw[Bool.eq_iff_iff];simp_all [aD,ao,aC,aB,aA,aE,and_assoc];done)
theorem la (a b c d:Int):dN a b c d<0↔(a<b∨(a=b∧c<d)):=by
 unfold dN DF ku
 by_cases h1:a<b
 · simp[h1]
 · by_cases h2:b<a
   · simp[h1,h2]
     omega
   · have:a=b:=by omega
     subst this
     by_cases h3:c<d
     · simp[h3]
     · by_cases h4:d<c
       · simp[h3,h4]
       · simp[h3,h4]
theorem oc (x y:Ti):af Tryz.prog 163 [.agg ⟨cu x⟩,.agg ⟨cu y⟩] (fun _=>True) (fun v F=>v = .bool (decide (dN x.owner y.owner x.tag y.tag<0))):=by
 have e:decide (dN x.owner y.owner x.tag y.tag<0)=decide (x.owner<y.owner∨(x.owner=y.owner∧x.tag<y.tag)):=decide_eq_decide.2 (la _ _ _ _)
 rw[e]
 refine af.aG ae Tryz.func163 rfl (by decide) (n:=Tryz.f163.ntmps - 2) rfl rfl fun w0 av=>?_
 conv=>whnf
 repeat (refine aa.of ?_;conv=>whnf)
 intro b0
 conv=>whnf
 repeat (refine aa.of ?_;conv=>whnf)
 intro b1
 conv=>whnf
 repeat (refine aa.of ?_;conv=>whnf)
 repeat' (first
  | (split<;>conv=>whnf))
 all_goals refine⟨_,ax.refl _,?_⟩
 all_goals first | rfl | (congr 1;rw[Bool.eq_iff_iff];simp_all [aD,ao,aC,aB,aA,aE,and_assoc];done)
theorem qI (l:List Ti) (h:Hd) (hh:h.Ok l.length) (hl:l.length≤140737488355328) :
 af Tryz.prog 92 [h.v l.length] (fun w=>ai w h.a (l.flatMap cu)) (fun v F=>v = .bool (allI l.length (kp l)&&decide (l.length≤100))):=by
 refine af.aG ae Tryz.func92 rfl (by decide) (n:=Tryz.f92.ntmps - 1) rfl rfl fun w0 av=>?_
 conv=>whnf
 repeat (refine aa.of ?_;conv=>whnf)
 refine az.loop ae (ι:=Nat) (List.range' 3 47) (fun x=>x≤l.length∧∀ j,j<x→kp l j=true)
  (fun x=>[(3,.v (.int .i64 (x:Int)))]) (fun _=>[]) (fun _=>⟨fun w=>ai w h.a (l.flatMap cu),[]⟩)
  (fun x=>l.length - x) 0 ⟨Nat.zero_le _,fun j h=>by omega⟩ ?_ rfl (ax.of_le ⟨by simp[Value.cells],fun w hw=>hw⟩) fun i hi=>?_
 · conv=>whnf
   repeat (first | exact au.nil | refine au.any ?_ | refine au.cons ?_)
 obtain⟨hi,hall⟩:=hi
 conv=>whnf
 repeat (refine aa.of ?_;conv=>whnf)
 refine bF.split (fun hlt=>?_) (fun hlt=>?_)
 · have hlt':i<l.length:=by
    simp only[ao,decide_eq_true_eq] at hlt
    omega
   have hok:kp l i=(decide ((1≤l[i].owner∧l[i].owner≤10)∧0≤l[i].due∧l[i].due≤2199023255552∧(0<i→dN l[i - 1]!.owner l[i].owner l[i - 1]!.tag l[i].tag<0))):=by
    unfold kp
    rw[bn hlt']
   have hnext:kp l i=true→∀ j,j<i+1→kp l j=true:=fun hs j hj=>by
    rcases Nat.lt_or_eq_of_le (Nat.lt_succ_iff.1 hj) with h5 | h5
    · exact hall j h5
    · exact h5 ▸ hs
   have hq1:=qj l[i].owner
   obtain⟨q1,heq1⟩ : ∃ q,q=decide (1≤l[i].owner∧l[i].owner≤10):=⟨_,rfl⟩
   rw[← heq1] at hq1
   conv=>whnf
   repeat (refine aa.of ?_;conv=>whnf)
   refine az.draw ae mixed rfl rfl ?_
   conv=>whnf
   rcases Nat.eq_zero_or_pos i with h0 | h0
   · have hg:gY (i:Int) 0=false:=by simp[aB];omega
     repeat' (first
      | (rw[hg];conv=>whnf)
      | (refine aw.val hq1 (fun w hw=>trivial) (fun v D hv=>?_);subst hv;cases q1<;>conv=>whnf)
      | (refine ak.index ae (t:=37) rfl rfl rfl (by first | omega) (by first | omega) hh.nil fun ad had=>?_;conv=>whnf)
      | (refine ak.aH ae rfl rfl (ad:=ad) (k:=i*3+0) (L:=l.flatMap cu) (v:=.int .i64 l[i].owner) (.fact fun w hw=>had ▸ hw) ?adr (bY (cf:=cu) (z:=3) (fun _=>rfl) hlt' (by decide)) ?_;(case adr=>intro hs;first | rfl);conv=>whnf)
      | (refine ak.aH ae rfl rfl (ad:=ad) (k:=i*3+2) (L:=l.flatMap cu) (v:=.int .i64 l[i].due) (.fact fun w hw=>had ▸ hw) ?adr (bY (cf:=cu) (z:=3) (fun _=>rfl) hlt' (by decide)) ?_;(case adr=>intro hs;first | rfl | (rw[Addr.bD hs];rfl));conv=>whnf)
      | (split<;>conv=>whnf))
     all_goals first
      | (refine⟨_,ax.refl _,?_⟩;rw[aJ hlt' (by rw[hok];((try subst heq1);(try subst heq2);(try subst heq3);simp only[cond_true,cond_false,ao,aC,aB,aD,aA,aE,decide_eq_true_eq,decide_eq_false_iff_not,beq_iff_eq,bne_iff_ne,ne_eq,beq_eq_false_iff_ne,bne_eq_false_iff_eq,Bool.not_eq_true,Bool.not_eq_false,Bool.and_true,Bool.true_and,Bool.and_false,Bool.false_and,Bool.or_true,Bool.or_false,Bool.true_or,Bool.false_or,Bool.not_eq_true',Bool.not_eq_false',Bool.not_true,Bool.not_false] at *;first | omega | (simp_all;omega)))];first | done | rfl)
      | (
       refine⟨i+1,⟨⟨hlt',hnext (by rw[hok];((try subst heq1);(try subst heq2);(try subst heq3);simp only[cond_true,cond_false,ao,aC,aB,aD,aA,aE,decide_eq_true_eq,decide_eq_false_iff_not,beq_iff_eq,bne_iff_ne,ne_eq,beq_eq_false_iff_ne,bne_eq_false_iff_eq,Bool.not_eq_true,Bool.not_eq_false,Bool.and_true,Bool.true_and,Bool.and_false,Bool.false_and,Bool.or_true,Bool.or_false,Bool.true_or,Bool.false_or,Bool.not_eq_true',Bool.not_eq_false',Bool.not_true,Bool.not_false] at *;first | (simp_all;done)))⟩,by dsimp only;omega⟩,?_,?_,ax.refl _⟩;(conv=>whnf);refine⟨?_,rfl⟩;repeat (first | exact au.nil | refine au.any ?_ | refine au.cons ?_ | refine au.eq (by rw[wrap_i64 (by omega)];rfl) ?_)
       (conv=>whnf);exact trivial)
   · have hg:gY (i:Int) 0=true:=by simp[aB];omega
     have hj:i - 1<l.length:=by omega
     have hw1:IntKind.i64.wrap ((i:Int) - 1)=((i - 1:Nat):Int):=by
      rw[wrap_i64 (by omega)]
      omega
     try rw[bn hj] at hok
     have hq2:=oc l[i - 1] l[i]
     obtain⟨q2,heq2⟩ : ∃ q,q=decide (dN l[i - 1].owner l[i].owner l[i - 1].tag l[i].tag<0):=⟨_,rfl⟩
     rw[← heq2] at hq2
     repeat' (first
      | (refine cj.same rfl ?_;conv=>whnf)
      | (rw[hg];conv=>whnf)
      | (refine aw.val hq1 (fun w hw=>trivial) (fun v D hv=>?_);subst hv;cases q1<;>conv=>whnf)
      | (refine ak.index ae (t:=37) rfl rfl rfl (by first | omega) (by first | omega) hh.nil fun ad had=>?_;conv=>whnf)
      | (refine ak.aQ ae rfl rfl (ad:=ad) (k:=i*3) (L:=l.flatMap cu) (m:=cu l[i]) (.fact fun w hw=>had ▸ hw) ?adr (a8 (cf:=cu) (z:=3) (fun _=>rfl) hlt') rfl ?_;(case adr=>first | rfl | (simp;done));conv=>whnf)
      | (refine ak.aH ae rfl rfl (ad:=ad) (k:=i*3+0) (L:=l.flatMap cu) (v:=.int .i64 l[i].owner) (.fact fun w hw=>had ▸ hw) ?adr (bY (cf:=cu) (z:=3) (fun _=>rfl) hlt' (by decide)) ?_;(case adr=>intro hs;first | rfl);conv=>whnf)
      | (refine ak.aH ae rfl rfl (ad:=ad) (k:=i*3+2) (L:=l.flatMap cu) (v:=.int .i64 l[i].due) (.fact fun w hw=>had ▸ hw) ?adr (bY (cf:=cu) (z:=3) (fun _=>rfl) hlt' (by decide)) ?_;(case adr=>intro hs;first | rfl | (rw[Addr.bD hs];rfl));conv=>whnf)
      | (refine ak.aQ ae rfl rfl (ad:=ad) (k:=(i - 1)*3) (L:=l.flatMap cu) (m:=cu l[i - 1]) (.fact fun w hw=>had ▸ hw) ?adr (a8 (cf:=cu) (z:=3) (fun _=>rfl) hj) rfl ?_;(case adr=>first | rfl | (rw[hw1];rfl));conv=>whnf)
      | (refine aw.val hq2 (fun w hw=>trivial) (fun v D hv=>?_);subst hv;cases q2<;>conv=>whnf)
      | (split<;>conv=>whnf))
     all_goals first
      | (refine⟨_,ax.refl _,?_⟩;rw[aJ hlt' (by rw[hok];((try subst heq1);(try subst heq2);(try subst heq3);simp only[cond_true,cond_false,ao,aC,aB,aD,aA,aE,decide_eq_true_eq,decide_eq_false_iff_not,beq_iff_eq,bne_iff_ne,ne_eq,beq_eq_false_iff_ne,bne_eq_false_iff_eq,Bool.not_eq_true,Bool.not_eq_false,Bool.and_true,Bool.true_and,Bool.and_false,Bool.false_and,Bool.or_true,Bool.or_false,Bool.true_or,Bool.false_or,Bool.not_eq_true',Bool.not_eq_false',Bool.not_true,Bool.not_false] at *;first | omega | (simp_all;done) | (simp_all;omega)))];first | done | rfl)
      | (
       refine⟨i+1,⟨⟨hlt',hnext (by rw[hok];((try subst heq1);(try subst heq2);(try subst heq3);simp only[cond_true,cond_false,ao,aC,aB,aD,aA,aE,decide_eq_true_eq,decide_eq_false_iff_not,beq_iff_eq,bne_iff_ne,ne_eq,beq_eq_false_iff_ne,bne_eq_false_iff_eq,Bool.not_eq_true,Bool.not_eq_false,Bool.and_true,Bool.true_and,Bool.and_false,Bool.false_and,Bool.or_true,Bool.or_false,Bool.true_or,Bool.false_or,Bool.not_eq_true',Bool.not_eq_false',Bool.not_true,Bool.not_false] at *;first | (simp_all;done)))⟩,by dsimp only;omega⟩,?_,?_,ax.refl _⟩;(conv=>whnf);refine⟨?_,rfl⟩;repeat (first | exact au.nil | refine au.any ?_ | refine au.cons ?_ | refine au.eq (by rw[wrap_i64 (by omega)];rfl) ?_)
       (conv=>whnf);exact trivial)
 · have hie:i=l.length:=by
    simp only[ao,decide_eq_false_iff_not] at hlt
    omega
   subst hie
   conv=>whnf
   repeat (refine aa.of ?_;conv=>whnf)
   refine⟨_,ax.refl _,?_⟩
   rw[aV hall,Bool.true_and]
   congr 1
   rw[Bool.eq_iff_iff]
   simp[aD,aC]
   try omega
theorem om {α:Type} [Inhabited α] (l:List α) (f:α→Bool):allI l.length (fun j=>!f l[j]!) = !l.any f:=by
 rw[Bool.eq_iff_iff,dB]
 constructor
 · intro h
   rw[Bool.not_eq_true',List.any_eq_false]
   intro x hx
   obtain⟨k,hk,rfl⟩:=List.mem_iff_getElem.1 hx
   have:=h k hk
   rw[bn hk] at this
   simpa using this
 · intro h j hj
   rw[Bool.not_eq_true',List.any_eq_false] at h
   have:=h l[j] (List.getElem_mem hj)
   rw[bn hj]
   simpa using this
theorem jm {α:Type} [Inhabited α] (l:List α) (f:α→Bool) {i:Nat} (hi:i≤l.length):((l.take i).any f)=false↔∀ j,j<i→f l[j]! = false:=by
 rw[List.any_eq_false]
 constructor
 · intro h j hj
   have hj':j<l.length:=by omega
   have:=h l[j] (List.mem_iff_getElem.2 ⟨j,by rw[List.length_take];omega,by rw[List.getElem_take]⟩)
   rw[bn hj']
   simpa using this
 · intro h x hx
   obtain⟨k,hk,rfl⟩:=List.mem_iff_getElem.1 hx
   rw[List.length_take] at hk
   have:=h k (by omega)
   rw[bn (by omega)] at this
   rw[List.getElem_take]
   simpa using this
def mW (l:List Bs) (j:Nat):Bool:=!fw (l[j]!.n:Int) 128
theorem ud (n:Nat) (l:List Bs):dy n l=(allI l.length (mW l)&&decide (l.length=n)):=by
 unfold dy
 rw[show allI l.length (mW l) = !(l.any fun x=>fw (x.n:Int) 128) from om l (fun x=>fw (x.n:Int) 128),Bool.and_comm]
theorem qM (l:List Bs) (h:Hd) (hh:h.Ok l.length) (hl:l.length≤140737488355328) :
 af Tryz.prog 87 [.agg ⟨[h.v l.length]⟩] (fun w=>ai w h.a (l.map du)) (fun v F=>v = .bool (dy 96 l)):=by
 rw[ud]
 refine af.aG ae Tryz.func87 rfl (by decide) (n:=Tryz.f87.ntmps - 1) rfl rfl fun w0 av=>?_
 conv=>whnf
 repeat (refine aa.of ?_;conv=>whnf)
 intro b0
 conv=>whnf
 repeat (refine aa.of ?_;conv=>whnf)
 refine az.loop ae (ι:=Nat) (List.range' 3 19) (fun x=>x≤l.length∧∀ j,j<x→mW l j=true)
  (fun x=>[(3,.v (.int .i64 (x:Int)))]) (fun _=>[[h.v l.length]]) (fun _=>⟨fun w=>ai w h.a (l.map du),[]⟩)
  (fun x=>l.length - x) 0 ⟨Nat.zero_le _,fun j h=>by omega⟩ ?_ rfl (ax.of_le ⟨by simp[Value.cells],fun w hw=>hw⟩) fun i hi=>?_
 · conv=>whnf
   repeat (first | exact au.nil | refine au.any ?_ | refine au.cons ?_)
 obtain⟨hi,hall⟩:=hi
 conv=>whnf
 repeat (refine aa.of ?_;conv=>whnf)
 refine bF.split (fun hlt=>?_) (fun hlt=>?_)
 · have hlt':i<l.length:=by
    simp only[ao,decide_eq_true_eq] at hlt
    omega
   have hok:mW l i=(!fw (l[i].n:Int) 128):=by
    unfold mW
    rw[bn hlt']
   have hnext:mW l i=true→∀ j,j<i+1→mW l j=true:=fun hs j hj=>by
    rcases Nat.lt_or_eq_of_le (Nat.lt_succ_iff.1 hj) with h5 | h5
    · exact hall j h5
    · exact h5 ▸ hs
   conv=>whnf
   repeat (refine aa.of ?_;conv=>whnf)
   repeat' (first
    | (refine ar.aj (ak.index ae (t:=40) rfl rfl rfl (by first | omega) (by first | omega) hh.nil fun ad had=>?_);conv=>whnf)
    | (refine ar.aj (ak.aH ae rfl rfl (ad:=ad) (k:=i) (L:=l.map du) (v:=du l[i]) (.fact fun w hw=>had ▸ hw) ?adr (by rw[List.getElem?_map,List.getElem?_eq_getElem hlt'];rfl) ?_);(case adr=>intro hs;first | (rw[Nat.mul_one];rfl) | rfl);conv=>whnf)
    | (split<;>conv=>whnf))
   all_goals first
    | (refine⟨_,ax.refl _,?_⟩;rw[aJ hlt' (by rw[hok];((try subst heq1);(try subst heq2);(try subst heq3);simp only[cond_true,cond_false,ao,aC,aB,aD,aA,aE,decide_eq_true_eq,decide_eq_false_iff_not,beq_iff_eq,bne_iff_ne,ne_eq,beq_eq_false_iff_ne,bne_eq_false_iff_eq,Bool.not_eq_true,Bool.not_eq_false,Bool.and_true,Bool.true_and,Bool.and_false,Bool.false_and,Bool.or_true,Bool.or_false,Bool.true_or,Bool.false_or,Bool.not_eq_true',Bool.not_eq_false',Bool.not_true,Bool.not_false] at *;first | omega))];first | done | rfl)
    | (
     refine⟨i+1,⟨⟨hlt',hnext (by rw[hok];((try subst heq1);(try subst heq2);(try subst heq3);simp only[cond_true,cond_false,ao,aC,aB,aD,aA,aE,decide_eq_true_eq,decide_eq_false_iff_not,beq_iff_eq,bne_iff_ne,ne_eq,beq_eq_false_iff_ne,bne_eq_false_iff_eq,Bool.not_eq_true,Bool.not_eq_false,Bool.and_true,Bool.true_and,Bool.and_false,Bool.false_and,Bool.or_true,Bool.or_false,Bool.true_or,Bool.false_or,Bool.not_eq_true',Bool.not_eq_false',Bool.not_true,Bool.not_false] at *;first | omega))⟩,by dsimp only;omega⟩,?_,?_,ax.refl _⟩;(conv=>whnf);refine⟨?_,rfl⟩;repeat (first | exact au.nil | refine au.any ?_ | refine au.cons ?_ | refine au.eq (by rw[wrap_i64 (by omega)];rfl) ?_)
     (conv=>whnf);exact⟨⟨rfl,rfl⟩,trivial⟩)
 · have hie:i=l.length:=by
    simp only[ao,decide_eq_false_iff_not] at hlt
    omega
   subst hie
   conv=>whnf
   repeat (refine aa.of ?_;conv=>whnf)
   exact⟨_,ax.refl _,by rw[aV hall,Bool.true_and];congr 1;rw[Bool.eq_iff_iff];simp[aA];try omega⟩
theorem sI (n:Int):af Tryz.prog 164 [.int .i64 n] (fun _=>True) (fun v F=>v = .bool (decide (1≤n∧n<32))):=by
 refine af.aG ae Tryz.func164 rfl (by decide) (n:=Tryz.f164.ntmps - 1) rfl rfl fun w0 av=>?_
 conv=>whnf
 repeat (refine aa.of ?_;conv=>whnf)
 repeat' (first
  | (refine cj.mk ?_ ?_;(focus (first | exact ax.refl _ | exact ax.left _ _ | exact ax.of_le ⟨List.sublist_append_left _ _,fun w h=>h⟩ | exact ax.of_le ⟨List.Sublist.refl _,fun w h=>h.1⟩));conv=>whnf))
 all_goals refine⟨_,ax.refl _,?_⟩
 all_goals first | rfl | (congr 1;rw[Bool.eq_iff_iff];simp_all [aD,ao,aC,aB,aA,aE,and_assoc];done)
theorem qm (l:List Int) (h:Hd) (hh:h.Ok l.length) (hl:l.length≤140737488355328) (x:Int) :
 af Tryz.prog 165 [h.v l.length,.int .i64 x] (fun w=>ai w h.a (l.map bH)) (fun v F=>v = .int .i64 (ek (l.findIdx? fun y=>aR y x))):=by
 refine af.aG ae Tryz.func165 rfl (by decide) (n:=Tryz.f165.ntmps - 2) rfl rfl fun w0 av=>?_
 conv=>whnf
 repeat (refine aa.of ?_;conv=>whnf)
 refine az.loop ae (ι:=Nat) (List.range' 5 14) (fun k=>k≤l.length∧∀ j (hj:j<l.length),j<k→aR l[j] x=false)
  (fun k=>[(5,.v (.int .i64 (k:Int)))]) (fun _=>[]) (fun _=>⟨fun w=>ai w h.a (l.map bH),[]⟩)
  (fun k=>l.length - k) 0 ⟨Nat.zero_le _,fun j hj h=>by omega⟩ ?_ rfl (ax.of_le ⟨by simp[Value.cells],fun w hw=>hw⟩) fun i hi=>?_
 · conv=>whnf
   repeat (first | exact au.nil | refine au.any ?_ | refine au.cons ?_)
 obtain⟨hi,hall⟩:=hi
 conv=>whnf
 repeat (refine aa.of ?_;conv=>whnf)
 refine bF.split (fun hlt=>?_) (fun hlt=>?_)
 · have hlt':i<l.length:=by
    simp only[ao,decide_eq_true_eq] at hlt
    omega
   conv=>whnf
   repeat (refine aa.of ?_;conv=>whnf)
   repeat' (first
    | (refine ar.aj (ak.index ae (t:=39) rfl rfl rfl (by first | omega) (by first | omega) hh.nil fun ad had=>?_);conv=>whnf)
    | (refine ar.aj (ak.aH ae rfl rfl (ad:=ad) (k:=i) (L:=l.map bH) (v:=bH l[i]) (.fact fun w hw=>had ▸ hw) ?adr (by rw[List.getElem?_map,List.getElem?_eq_getElem hlt'];rfl) ?_);(case adr=>intro hs;first | (rw[Nat.mul_one];rfl) | rfl);conv=>whnf))
   refine bF.split (fun hq=>?_) (fun hq=>?_)
   · conv=>whnf
     repeat (refine aa.of ?_;conv=>whnf)
     refine⟨_,ax.refl _,?_⟩
     have:l.findIdx? (fun y=>aR y x)=some i:=by
      rw[List.findIdx?_eq_some_iff_getElem]
      exact⟨hlt',hq,fun j hj=>by simpa using hall j (by omega) hj⟩
     rw[this]
     rfl
   · conv=>whnf
     repeat (refine aa.of ?_;conv=>whnf)
     refine⟨i+1,⟨⟨hlt',fun j hj h=>?_⟩,by dsimp only;omega⟩,?_,?_,ax.refl _⟩
     · rcases Nat.lt_or_eq_of_le (Nat.lt_succ_iff.1 h) with h5 | h5
       · exact hall j hj h5
       · subst h5
         exact hq
     · conv=>whnf
       refine⟨?_,rfl⟩
       repeat (first | exact au.nil | refine au.any ?_ | refine au.cons ?_ | refine au.eq (by rw[wrap_i64 (by omega)];rfl) ?_)
     · conv=>whnf
       exact trivial
 · have hie:i=l.length:=by
    simp only[ao,decide_eq_false_iff_not] at hlt
    omega
   subst hie
   conv=>whnf
   repeat (refine aa.of ?_;conv=>whnf)
   refine⟨_,ax.refl _,?_⟩
   have:l.findIdx? (fun y=>aR y x)=none:=by
    rw[List.findIdx?_eq_none_iff]
    intro y hy
    obtain⟨j,hj,rfl⟩:=List.getElem_of_mem hy
    simpa using hall j hj hj
   rw[this]
   rfl
theorem Bh (l:List Int) {i:Nat} (hi:i<l.length):(fw (ek (l.findIdx? fun y=>aR y l[i])) (i:Int)=false)↔((l.take i).any fun y=>l[i]! == y)=false:=by
 rw[jm _ _ (by omega)]
 constructor
 · intro h j hj
   have h1:ek (l.findIdx? fun y=>aR y l[i])=(i:Int):=by simpa [aE] using h
   cases hf:l.findIdx? (fun y=>aR y l[i]) with
   | none=>rw[hf] at h1;exact absurd h1 (by simp only[ek];omega)
   | some k=>
    rw[hf] at h1
    have hk:k=i:=by simp[ek] at h1;omega
    subst hk
    rw[List.findIdx?_eq_some_iff_getElem] at hf
    obtain⟨hk,-,h3⟩:=hf
    have h4:=h3 j hj
    rw[bn (show j<l.length by omega),bn hi]
    simp[aA] at h4 ⊢
    exact fun e=>h4 e.symm
 · intro h
   have hf:l.findIdx? (fun y=>aR y l[i])=some i:=by
    rw[List.findIdx?_eq_some_iff_getElem]
    refine⟨hi,by simp[aA],fun j hj=>?_⟩
    have h4:=h j hj
    rw[bn (show j<l.length by omega),bn hi] at h4
    simp[aA] at h4 ⊢
    exact fun e=>h4 e.symm
   rw[hf]
   simp[ek,aE]
theorem qf (l:List Int) (h:Hd) (hh:h.Ok l.length) (hl:l.length≤140737488355328) :
 af Tryz.prog 93 [h.v l.length] (fun w=>ai w h.a (l.map bH)) (fun v F=>v = .bool (allI l.length (kf l))):=by
 refine af.aG ae Tryz.func93 rfl (by decide) (n:=Tryz.f93.ntmps - 1) rfl rfl fun w0 av=>?_
 conv=>whnf
 repeat (refine aa.of ?_;conv=>whnf)
 refine az.loop ae (ι:=Nat) (List.range' 3 23) (fun x=>x≤l.length∧∀ j,j<x→kf l j=true)
  (fun x=>[(3,.v (.int .i64 (x:Int)))]) (fun _=>[]) (fun _=>⟨fun w=>ai w h.a (l.map bH),[]⟩)
  (fun x=>l.length - x) 0 ⟨Nat.zero_le _,fun j h=>by omega⟩ ?_ rfl (ax.of_le ⟨by simp[Value.cells],fun w hw=>hw⟩) fun i hi=>?_
 · conv=>whnf
   repeat (first | exact au.nil | refine au.any ?_ | refine au.cons ?_)
 obtain⟨hi,hall⟩:=hi
 conv=>whnf
 repeat (refine aa.of ?_;conv=>whnf)
 refine bF.split (fun hlt=>?_) (fun hlt=>?_)
 · have hlt':i<l.length:=by
    simp only[ao,decide_eq_true_eq] at hlt
    omega
   have hq1:=sI l[i]
   have hq2:=qm l h hh hl l[i]
   have hq3:=Bh l hlt'
   obtain⟨q1,heq1⟩ : ∃ q,q=decide (1≤l[i]∧l[i]<32):=⟨_,rfl⟩
   rw[← heq1] at hq1
   have hok:kf l i=(q1 && !((l.take i).any fun y=>l[i]! == y)):=by
    unfold kf
    rw[heq1,bn hlt']
   have hnext:kf l i=true→∀ j,j<i+1→kf l j=true:=fun hs j hj=>by
    rcases Nat.lt_or_eq_of_le (Nat.lt_succ_iff.1 hj) with h5 | h5
    · exact hall j h5
    · exact h5 ▸ hs
   conv=>whnf
   repeat (refine aa.of ?_;conv=>whnf)
   repeat' (first
    | (refine aw.val hq1 (fun w hw=>trivial) (fun v D hv=>?_);subst hv;cases q1<;>conv=>whnf)
    | (refine aw.val hq2 (fun w hw=>hw) (fun v D hv=>?_);subst hv;conv=>whnf)
    | (refine ar.aj (ak.index ae (t:=39) rfl rfl rfl (by first | omega) (by first | omega) hh.nil fun ad had=>?_);conv=>whnf)
    | (refine ar.aj (ak.aH ae rfl rfl (ad:=ad) (k:=i) (L:=l.map bH) (v:=bH l[i]) (.fact fun w hw=>had ▸ hw) ?adr (by rw[List.getElem?_map,List.getElem?_eq_getElem hlt'];rfl) ?_);(case adr=>intro hs;first | (rw[Nat.mul_one];rfl) | rfl);conv=>whnf)
    | (refine bF.split (fun hq=>?_) (fun hq=>?_)<;>conv=>whnf))
   · exact⟨_,ax.refl _,by rw[aJ hlt' (by rw[hok];rfl)]⟩
   · refine⟨_,ax.refl _,?_⟩
     rw[aJ hlt']
     rw[hok,Bool.true_and,Bool.not_eq_false']
     cases hx:((l.take i).any fun y=>l[i]! == y) with
     | true=>rfl
     | false=>
      rw[hq3.2 hx] at hq
      cases hq
   · refine⟨i+1,⟨⟨hlt',hnext (by rw[hok,hq3.1 hq];rfl)⟩,by dsimp only;omega⟩,?_,?_,ax.refl _⟩
     · conv=>whnf
       refine⟨?_,rfl⟩
       repeat (first | exact au.nil | refine au.any ?_ | refine au.cons ?_ | refine au.eq (by rw[wrap_i64 (by omega)];rfl) ?_)
     · conv=>whnf
       exact trivial
 · have hie:i=l.length:=by
    simp only[ao,decide_eq_false_iff_not] at hlt
    omega
   subst hie
   conv=>whnf
   repeat (refine aa.of ?_;conv=>whnf)
   exact⟨_,ax.refl _,by rw[aV hall]⟩
theorem nW (x:nG):af Tryz.prog 150 [.agg ⟨aW x⟩] (fun _=>True) (fun v F=>v = .bool (decide (1≤x.dev∧x.dev≤4∧0≤x.tag∧0≤x.frame∧x.frame<96))):=by
 refine af.aG ae Tryz.func150 rfl (by decide) (n:=Tryz.f150.ntmps - 1) rfl rfl fun w0 av=>?_
 conv=>whnf
 repeat (refine aa.of ?_;conv=>whnf)
 intro b0
 conv=>whnf
 repeat (refine aa.of ?_;conv=>whnf)
 repeat' (first
  | (refine cj.mk ?_ ?_;(focus (first | exact ax.refl _ | exact ax.left _ _ | exact ax.of_le ⟨List.sublist_append_left _ _,fun w h=>h⟩ | exact ax.of_le ⟨List.Sublist.refl _,fun w h=>h.1⟩));conv=>whnf))
 all_goals refine⟨_,ax.refl _,?_⟩
 all_goals first | rfl | (congr 1;rw[Bool.eq_iff_iff];simp_all [aD,ao,aC,aB,aA,aE,and_assoc];done)
theorem nU (x y:nG):af Tryz.prog 151 [.agg ⟨aW x⟩,.agg ⟨aW y⟩] (fun _=>True) (fun v F=>v = .bool (decide (dN x.dev y.dev x.tag y.tag<0))):=by
 have e:decide (dN x.dev y.dev x.tag y.tag<0)=decide (x.dev<y.dev∨(x.dev=y.dev∧x.tag<y.tag)):=decide_eq_decide.2 (la _ _ _ _)
 rw[e]
 refine af.aG ae Tryz.func151 rfl (by decide) (n:=Tryz.f151.ntmps - 2) rfl rfl fun w0 av=>?_
 conv=>whnf
 repeat (refine aa.of ?_;conv=>whnf)
 intro b0
 conv=>whnf
 repeat (refine aa.of ?_;conv=>whnf)
 intro b1
 conv=>whnf
 repeat (refine aa.of ?_;conv=>whnf)
 repeat' (first
  | (split<;>conv=>whnf))
 all_goals refine⟨_,ax.refl _,?_⟩
 all_goals first | rfl | (congr 1;rw[Bool.eq_iff_iff];simp_all [aD,ao,aC,aB,aA,aE,and_assoc];done)
theorem kY (x y:nG):af Tryz.prog 152 [.agg ⟨aW x⟩,.agg ⟨aW y⟩] (fun _=>True) (fun v F=>v = .bool (dp x y)):=by
 unfold dp
 refine af.aG ae Tryz.func152 rfl (by decide) (n:=Tryz.f152.ntmps - 2) rfl rfl fun w0 av=>?_
 conv=>whnf
 repeat (refine aa.of ?_;conv=>whnf)
 intro b0
 conv=>whnf
 repeat (refine aa.of ?_;conv=>whnf)
 intro b1
 conv=>whnf
 repeat (refine aa.of ?_;conv=>whnf)
 repeat' (first
  | (split<;>conv=>whnf))
 all_goals refine⟨_,ax.refl _,?_⟩
 all_goals first | rfl | (congr 1;rw[Bool.eq_iff_iff];simp_all [aD,ao,aC,aB,aA,aE,and_assoc];done)
theorem qk (l:List nG) (h:Hd) (hh:h.Ok l.length) (hl:l.length≤140737488355328) :
 af Tryz.prog 88 [h.v l.length] (fun w=>ai w h.a (l.flatMap aW)) (fun v F=>v = .bool (allI l.length (gk l))):=by
 refine af.aG ae Tryz.func88 rfl (by decide) (n:=Tryz.f88.ntmps - 1) rfl rfl fun w0 av=>?_
 conv=>whnf
 repeat (refine aa.of ?_;conv=>whnf)
 refine az.loop ae (ι:=Nat) ([3,4]++List.range' 5 43) (fun x=>x≤l.length∧∀ j,j<x→gk l j=true)
  (fun x=>[(3,.v (.int .i64 (x:Int)))]) (fun _=>[]) (fun _=>⟨fun w=>ai w h.a (l.flatMap aW),[]⟩)
  (fun x=>l.length - x) 0 ⟨Nat.zero_le _,fun j h=>by omega⟩ ?_ rfl (ax.of_le ⟨by simp[Value.cells],fun w hw=>hw⟩) fun i hi=>?_
 · conv=>whnf
   repeat (first | exact au.nil | refine au.any ?_ | refine au.cons ?_)
 obtain⟨hi,hall⟩:=hi
 conv=>whnf
 repeat (refine aa.of ?_;conv=>whnf)
 refine bF.split (fun hlt=>?_) (fun hlt=>?_)
 · have hlt':i<l.length:=by
    simp only[ao,decide_eq_true_eq] at hlt
    omega
   have hok:gk l i=(decide (1≤l[i].dev∧l[i].dev≤4∧0≤l[i].tag∧0≤l[i].frame∧l[i].frame<96)&&(decide (0<i→dN l[i - 1]!.dev l[i].dev l[i - 1]!.tag l[i].tag<0) && !((l.take i).any fun v=>dp v l[i]))):=by
    unfold gk
    rw[bn hlt']
   have hnext:gk l i=true→∀ j,j<i+1→gk l j=true:=fun hs j hj=>by
    rcases Nat.lt_or_eq_of_le (Nat.lt_succ_iff.1 hj) with h5 | h5
    · exact hall j h5
    · exact h5 ▸ hs
   have hq1:=nW l[i]
   obtain⟨q1,heq1⟩ : ∃ q,q=decide (1≤l[i].dev∧l[i].dev≤4∧0≤l[i].tag∧0≤l[i].frame∧l[i].frame<96):=⟨_,rfl⟩
   rw[← heq1] at hq1
   conv=>whnf
   repeat (refine aa.of ?_;conv=>whnf)
   refine az.draw ae mixed rfl rfl ?_
   conv=>whnf
   rcases Nat.eq_zero_or_pos i with h0 | h0
   · have hg:gY (i:Int) 0=false:=by simp[aB];omega
     repeat' (first
      | (rw[hg];conv=>whnf)
      | (refine aw.val hq1 (fun w hw=>trivial) (fun v D hv=>?_);subst hv;cases q1<;>conv=>whnf)
      | (refine ak.index ae (t:=47) rfl rfl rfl (by first | omega) (by first | omega) hh.nil fun ad had=>?_;conv=>whnf)
      | (refine ak.aQ ae rfl rfl (ad:=ad) (k:=i*4) (L:=l.flatMap aW) (m:=aW l[i]) (.fact fun w hw=>had ▸ hw) ?adr (a8 (cf:=aW) (z:=4) (fun _=>rfl) hlt') rfl ?_;(case adr=>first | rfl);conv=>whnf))
     · exact⟨_,ax.refl _,by rw[aJ hlt' (by rw[hok,← heq1];rfl)]⟩
     · conv=>whnf
       repeat (refine aa.of ?_;conv=>whnf)
       refine az.loop ae (ι:=Nat) ([4]++List.range' 34 14) (fun x=>x≤i∧∀ j,j<x→dp l[j]! l[i]=false)
        (fun x=>[(4,.v (.int .i64 (x:Int)))]) (fun _=>[]) (fun _=>⟨fun w=>ai w h.a (l.flatMap aW),[]⟩)
        (fun x=>i - x) 0 ⟨Nat.zero_le _,fun j h=>by omega⟩ ?_ rfl (ax.refl _) fun k hk=>?_
       · conv=>whnf
         repeat (first | exact au.nil | refine au.any ?_ | refine au.cons ?_)
       obtain⟨hk,hko⟩:=hk
       conv=>whnf
       repeat (refine aa.of ?_;conv=>whnf)
       refine bF.split (fun hkt=>?_) (fun hkt=>?_)
       · have hkt':k<i:=by
          simp only[ao,decide_eq_true_eq] at hkt
          omega
         have hk':k<l.length:=by omega
         have hq3:=kY l[k] l[i]
         obtain⟨q3,heq3⟩ : ∃ q,q=dp l[k] l[i]:=⟨_,rfl⟩
         rw[← heq3] at hq3
         conv=>whnf
         repeat (refine aa.of ?_;conv=>whnf)
         refine az.draw ae mixed rfl rfl ?_
         conv=>whnf
         repeat' (first
          | (refine ak.index ae (t:=47) rfl rfl rfl (by first | omega) (by first | omega) hh.nil fun ad had=>?_;conv=>whnf)
          | (refine ak.aQ ae rfl rfl (ad:=ad) (k:=k*4) (L:=l.flatMap aW) (m:=aW l[k]) (.fact fun w hw=>had ▸ hw) ?adr (a8 (cf:=aW) (z:=4) (fun _=>rfl) hk') rfl ?_;(case adr=>first | rfl | (simp;done));conv=>whnf)
          | (refine ak.aQ ae rfl rfl (ad:=ad) (k:=i*4) (L:=l.flatMap aW) (m:=aW l[i]) (.fact fun w hw=>had ▸ hw) ?adr (a8 (cf:=aW) (z:=4) (fun _=>rfl) hlt') rfl ?_;(case adr=>first | rfl);conv=>whnf)
          | (refine aw.val hq3 (fun w hw=>trivial) (fun v D hv=>?_);subst hv;cases q3<;>conv=>whnf))
         · refine⟨k+1,⟨⟨hkt',fun j hj=>?_⟩,by dsimp only;omega⟩,?_,?_,ax.refl _⟩
           · rcases Nat.lt_or_eq_of_le (Nat.lt_succ_iff.1 hj) with h5 | h5
             · exact hko j h5
             · subst h5
               rw[bn hk']
               exact heq3.symm
           · conv=>whnf
             refine⟨?_,rfl⟩
             repeat (first | exact au.nil | refine au.any ?_ | refine au.cons ?_ | refine au.eq (by rw[wrap_i64 (by omega)];rfl) ?_)
           · conv=>whnf
             exact trivial
         · refine⟨_,ax.refl _,?_⟩
           rw[aJ hlt']
           rw[hok,Bool.and_eq_false_iff,Bool.and_eq_false_iff]
           refine .inr (.inr ?_)
           rw[Bool.not_eq_false']
           cases hx:((l.take i).any fun v=>dp v l[i]) with
           | true=>rfl
           | false=>
            have:=(jm _ _ (Nat.le_of_lt hlt')).1 hx k hkt'
            rw[bn hk',← heq3] at this
            cases this
       · have hke:k=i:=by
          simp only[ao,decide_eq_false_iff_not] at hkt
          omega
         subst hke
         conv=>whnf
         repeat (refine aa.of ?_;conv=>whnf)
         refine⟨k+1,⟨⟨hlt',hnext ?_⟩,by dsimp only;omega⟩,?_,?_,ax.refl _⟩
         · rw[hok,(jm _ _ (Nat.le_of_lt hlt')).2 hko]
           rw[← heq1,decide_eq_true (show 0<k→_ from fun h=>absurd h0 (by omega))];rfl
         · conv=>whnf
           refine⟨?_,rfl⟩
           repeat (first | exact au.nil | refine au.any ?_ | refine au.cons ?_ | refine au.eq (by rw[wrap_i64 (by omega)];rfl) ?_)
         · conv=>whnf
           exact trivial
   · have hg:gY (i:Int) 0=true:=by simp[aB];omega
     have hj:i - 1<l.length:=by omega
     have hw1:IntKind.i64.wrap ((i:Int) - 1)=((i - 1:Nat):Int):=by
      rw[wrap_i64 (by omega)]
      omega
     try rw[bn hj] at hok
     have hq2:=nU l[i - 1] l[i]
     obtain⟨q2,heq2⟩ : ∃ q,q=decide (dN l[i - 1].dev l[i].dev l[i - 1].tag l[i].tag<0):=⟨_,rfl⟩
     rw[← heq2] at hq2
     repeat' (first
      | (rw[hg];conv=>whnf)
      | (refine aw.val hq1 (fun w hw=>trivial) (fun v D hv=>?_);subst hv;cases q1<;>conv=>whnf)
      | (refine ak.index ae (t:=47) rfl rfl rfl (by first | omega) (by first | omega) hh.nil fun ad had=>?_;conv=>whnf)
      | (refine ak.aQ ae rfl rfl (ad:=ad) (k:=i*4) (L:=l.flatMap aW) (m:=aW l[i]) (.fact fun w hw=>had ▸ hw) ?adr (a8 (cf:=aW) (z:=4) (fun _=>rfl) hlt') rfl ?_;(case adr=>first | rfl | (simp;done));conv=>whnf)
      | (refine ak.aQ ae rfl rfl (ad:=ad) (k:=(i - 1)*4) (L:=l.flatMap aW) (m:=aW l[i - 1]) (.fact fun w hw=>had ▸ hw) ?adr (a8 (cf:=aW) (z:=4) (fun _=>rfl) hj) rfl ?_;(case adr=>first | rfl | (rw[hw1];rfl));conv=>whnf)
      | (refine aw.val hq2 (fun w hw=>trivial) (fun v D hv=>?_);subst hv;cases q2<;>conv=>whnf))
     · exact⟨_,ax.refl _,by rw[aJ hlt' (by rw[hok,← heq1];rfl)]⟩
     · exact⟨_,ax.refl _,by rw[aJ hlt' (by rw[hok,decide_eq_false (show ¬ (0<i→dN l[i - 1].dev l[i].dev l[i - 1].tag l[i].tag<0) from fun hc=>of_decide_eq_false heq2.symm (hc h0)),Bool.false_and,Bool.and_false])]⟩
     · conv=>whnf
       repeat (refine aa.of ?_;conv=>whnf)
       refine az.loop ae (ι:=Nat) ([4]++List.range' 34 14) (fun x=>x≤i∧∀ j,j<x→dp l[j]! l[i]=false)
        (fun x=>[(4,.v (.int .i64 (x:Int)))]) (fun _=>[]) (fun _=>⟨fun w=>ai w h.a (l.flatMap aW),[]⟩)
        (fun x=>i - x) 0 ⟨Nat.zero_le _,fun j h=>by omega⟩ ?_ rfl (ax.refl _) fun k hk=>?_
       · conv=>whnf
         repeat (first | exact au.nil | refine au.any ?_ | refine au.cons ?_)
       obtain⟨hk,hko⟩:=hk
       conv=>whnf
       repeat (refine aa.of ?_;conv=>whnf)
       refine bF.split (fun hkt=>?_) (fun hkt=>?_)
       · have hkt':k<i:=by
          simp only[ao,decide_eq_true_eq] at hkt
          omega
         have hk':k<l.length:=by omega
         have hq3:=kY l[k] l[i]
         obtain⟨q3,heq3⟩ : ∃ q,q=dp l[k] l[i]:=⟨_,rfl⟩
         rw[← heq3] at hq3
         conv=>whnf
         repeat (refine aa.of ?_;conv=>whnf)
         refine az.draw ae mixed rfl rfl ?_
         conv=>whnf
         repeat' (first
          | (refine ak.index ae (t:=47) rfl rfl rfl (by first | omega) (by first | omega) hh.nil fun ad had=>?_;conv=>whnf)
          | (refine ak.aQ ae rfl rfl (ad:=ad) (k:=k*4) (L:=l.flatMap aW) (m:=aW l[k]) (.fact fun w hw=>had ▸ hw) ?adr (a8 (cf:=aW) (z:=4) (fun _=>rfl) hk') rfl ?_;(case adr=>first | rfl | (simp;done));conv=>whnf)
          | (refine ak.aQ ae rfl rfl (ad:=ad) (k:=i*4) (L:=l.flatMap aW) (m:=aW l[i]) (.fact fun w hw=>had ▸ hw) ?adr (a8 (cf:=aW) (z:=4) (fun _=>rfl) hlt') rfl ?_;(case adr=>first | rfl);conv=>whnf)
          | (refine aw.val hq3 (fun w hw=>trivial) (fun v D hv=>?_);subst hv;cases q3<;>conv=>whnf))
         · refine⟨k+1,⟨⟨hkt',fun j hj=>?_⟩,by dsimp only;omega⟩,?_,?_,ax.refl _⟩
           · rcases Nat.lt_or_eq_of_le (Nat.lt_succ_iff.1 hj) with h5 | h5
             · exact hko j h5
             · subst h5
               rw[bn hk']
               exact heq3.symm
           · conv=>whnf
             refine⟨?_,rfl⟩
             repeat (first | exact au.nil | refine au.any ?_ | refine au.cons ?_ | refine au.eq (by rw[wrap_i64 (by omega)];rfl) ?_)
           · conv=>whnf
             exact trivial
         · refine⟨_,ax.refl _,?_⟩
           rw[aJ hlt']
           rw[hok,Bool.and_eq_false_iff,Bool.and_eq_false_iff]
           refine .inr (.inr ?_)
           rw[Bool.not_eq_false']
           cases hx:((l.take i).any fun v=>dp v l[i]) with
           | true=>rfl
           | false=>
            have:=(jm _ _ (Nat.le_of_lt hlt')).1 hx k hkt'
            rw[bn hk',← heq3] at this
            cases this
       · have hke:k=i:=by
          simp only[ao,decide_eq_false_iff_not] at hkt
          omega
         subst hke
         conv=>whnf
         repeat (refine aa.of ?_;conv=>whnf)
         refine⟨k+1,⟨⟨hlt',hnext ?_⟩,by dsimp only;omega⟩,?_,?_,ax.refl _⟩
         · rw[hok,(jm _ _ (Nat.le_of_lt hlt')).2 hko]
           rw[← heq1,decide_eq_true (show 0<k→_ from fun _=>of_decide_eq_true heq2.symm)];rfl
         · conv=>whnf
           refine⟨?_,rfl⟩
           repeat (first | exact au.nil | refine au.any ?_ | refine au.cons ?_ | refine au.eq (by rw[wrap_i64 (by omega)];rfl) ?_)
         · conv=>whnf
           exact trivial
 · have hie:i=l.length:=by
    simp only[ao,decide_eq_false_iff_not] at hlt
    omega
   subst hie
   conv=>whnf
   repeat (refine aa.of ?_;conv=>whnf)
   exact⟨_,ax.refl _,by rw[aV hall]⟩
theorem oT (n:Int):af Tryz.prog 219 [.int .i64 n] (fun _=>True) (fun v F=>v = .bool (decide (1≤n∧n≤4))):=by
 refine af.aG ae Tryz.func219 rfl (by decide) (n:=Tryz.f219.ntmps - 1) rfl rfl fun w0 av=>?_
 conv=>whnf
 repeat (refine aa.of ?_;conv=>whnf)
 repeat' (first
  | (refine cj.mk ?_ ?_;(focus (first | exact ax.refl _ | exact ax.left _ _ | exact ax.of_le ⟨List.sublist_append_left _ _,fun w h=>h⟩ | exact ax.of_le ⟨List.Sublist.refl _,fun w h=>h.1⟩));conv=>whnf))
 all_goals refine⟨_,ax.refl _,?_⟩
 all_goals first | rfl | (congr 1;rw[Bool.eq_iff_iff];simp_all [aD,ao,aC,aB,aA,aE,and_assoc];done)
theorem oP (x:qs):af Tryz.prog 148 [.agg ⟨cK x⟩] (fun _=>True) (fun v F=>v = .bool (sK x)):=by
 have h1:=oT x.dev
 unfold sK
 generalize decide (1≤x.dev∧x.dev≤4)=q1 at *
 refine af.aG ae Tryz.func148 rfl (by decide) (n:=Tryz.f148.ntmps - 1) rfl rfl fun w0 av=>?_
 conv=>whnf
 repeat (refine aa.of ?_;conv=>whnf)
 intro b1
 conv=>whnf
 repeat (refine aa.of ?_;conv=>whnf)
 repeat' (first
  | (refine aa.of ?_;conv=>whnf)
  | (refine aw.val h1 (fun w hw=>trivial) (fun v D hv=>?_);subst hv;cases q1<;>conv=>whnf))
 all_goals refine⟨_,ax.refl _,?_⟩
 all_goals first | rfl | (congr 1;rw[Bool.eq_iff_iff];simp_all [aD,ao,aC,aB,aA,aE,and_assoc];omega)
theorem vi {h:Hd} {n i z:Nat} (hh:h.Ok n) (hi:i≤n):(⟨jM h.a 0 h.c z,h.c - 0⟩:Hd).Ok i:=by
 refine⟨fun e=>?_,by have:=hh.cap;show i≤h.c - 0;omega⟩
 dsimp only at e
 unfold jM at e
 split at e
 · have:=hh.nil e
   omega
 · have:=hh.nil (by simpa using e)
   omega
theorem wY {α:Type} {cf:α→List Value} {z:Nat} (hz : ∀ x,(cf x).length=z) {w:World} {h:Hd} {l:List α} {i:Nat} (hr:ai w h.a (l.flatMap cf)) (hi:i≤h.c):ai w (jM h.a 0 h.c z) ((l.take i).flatMap cf):=by
 have:=hr.cut (l:=0) (hi:=i) (m:=h.c) (size:=z) ⟨Nat.zero_le _,hi⟩
 rwa [Nat.zero_mul,List.drop_zero,Nat.sub_zero,jD hz] at this
theorem oq {α:Type} {l:List α} {i:Nat} (hi:i≤l.length):(l.take i).length=i:=by rw[List.length_take,Nat.min_eq_left hi]
def cU {α:Type} [Inhabited α] (l:List α) (f:α→Bool) (j:Nat):Bool:=!f l[j]!
theorem fM {α:Type} [Inhabited α] (l:List α) (f:α→Bool):l.any f = !allI l.length (cU l f):=by
 rw[show allI l.length (cU l f)=_ from om l f,Bool.not_not]
theorem mD (l:List qs) (h:Hd) (hh:h.Ok l.length) (hl:l.length≤140737488355328) (x:qs) :
 af Tryz.prog 149 [h.v l.length,.agg ⟨cK x⟩] (fun w=>ai w h.a (l.flatMap cK)) (fun v F=>v = .bool (l.any fun y=>di y x)):=by
 rw[fM l (di · x)]
 refine af.aG ae Tryz.func149 rfl (by decide) (n:=Tryz.f149.ntmps - 2) rfl rfl fun w0 av=>?_
 conv=>whnf
 repeat (refine aa.of ?_;conv=>whnf)
 intro b3
 conv=>whnf
 repeat (refine aa.of ?_;conv=>whnf)
 refine az.loop ae (ι:=Nat) (List.range' 5 25) (fun z=>z≤l.length∧∀ j,j<z→cU l (di · x) j=true)
  (fun z=>[(5,.v (.int .i64 (z:Int)))]) (fun _=>[cK x]) (fun _=>⟨fun w=>ai w h.a (l.flatMap cK),[]⟩)
  (fun z=>l.length - z) 0 ⟨Nat.zero_le _,fun j h=>by omega⟩ ?_ rfl (ax.of_le ⟨by simp[Value.cells],fun w hw=>hw⟩) fun i hi=>?_
 · conv=>whnf
   repeat (first | exact au.nil | refine au.any ?_ | refine au.cons ?_)
 obtain⟨hi,hall⟩:=hi
 conv=>whnf
 repeat (refine aa.of ?_;conv=>whnf)
 refine bF.split (fun hlt=>?_) (fun hlt=>?_)
 · have hlt':i<l.length:=by
    simp only[ao,decide_eq_true_eq] at hlt
    omega
   have hok:cU l (di · x) i=(!di l[i] x):=by
    unfold cU
    rw[bn hlt']
   obtain⟨a,ha⟩ : ∃ a,aR l[i].dev x.dev=a:=⟨_,rfl⟩
   obtain⟨b,hb⟩ : ∃ b,aR l[i].tag x.tag=b:=⟨_,rfl⟩
   rw[show di l[i] x=(aR l[i].dev x.dev&&aR l[i].tag x.tag) from rfl,ha,hb] at hok
   have hnext:cU l (di · x) i=true→∀ j,j<i+1→cU l (di · x) j=true:=fun hs j hj=>by
    rcases Nat.lt_or_eq_of_le (Nat.lt_succ_iff.1 hj) with h5 | h5
    · exact hall j h5
    · exact h5 ▸ hs
   conv=>whnf
   repeat (refine aa.of ?_;conv=>whnf)
   refine az.draw ae mixed rfl rfl ?_
   conv=>whnf
   repeat' (first
    | (refine ak.index ae (t:=67) rfl rfl rfl (by first | omega) (by first | omega) hh.nil fun ad had=>?_;conv=>whnf)
    | (refine ak.aH ae rfl rfl (ad:=ad) (k:=i*4+0) (L:=l.flatMap cK) (v:=.int .i64 l[i].dev) (.fact fun w hw=>had ▸ hw) ?adr (bY (cf:=cK) (z:=4) (fun _=>rfl) hlt' (by decide)) ?_;(case adr=>intro hs;first | rfl);conv=>whnf)
    | (refine ak.aH ae rfl rfl (ad:=ad) (k:=i*4+1) (L:=l.flatMap cK) (v:=.int .i64 l[i].tag) (.fact fun w hw=>had ▸ hw) ?adr (bY (cf:=cK) (z:=4) (fun _=>rfl) hlt' (by decide)) ?_;(case adr=>intro hs;first | rfl | (rw[Addr.bD hs];rfl));conv=>whnf)
    | (rw[ha];cases a<;>conv=>whnf)
    | (rw[hb];cases b<;>conv=>whnf))
   · refine⟨i+1,⟨⟨hlt',hnext (by rw[hok];rfl)⟩,by dsimp only;omega⟩,?_,?_,ax.refl _⟩
     · conv=>whnf
       refine⟨?_,rfl⟩
       repeat (first | exact au.nil | refine au.any ?_ | refine au.cons ?_ | refine au.eq (by rw[wrap_i64 (by omega)];rfl) ?_)
     · conv=>whnf
       exact⟨⟨rfl,rfl⟩,trivial⟩
   · refine⟨i+1,⟨⟨hlt',hnext (by rw[hok];rfl)⟩,by dsimp only;omega⟩,?_,?_,ax.refl _⟩
     · conv=>whnf
       refine⟨?_,rfl⟩
       repeat (first | exact au.nil | refine au.any ?_ | refine au.cons ?_ | refine au.eq (by rw[wrap_i64 (by omega)];rfl) ?_)
     · conv=>whnf
       exact⟨⟨rfl,rfl⟩,trivial⟩
   · refine⟨_,ax.refl _,?_⟩
     rw[aJ hlt' (by rw[hok];rfl)]
     rfl
 · have hie:i=l.length:=by
    simp only[ao,decide_eq_false_iff_not] at hlt
    omega
   subst hie
   conv=>whnf
   repeat (refine aa.of ?_;conv=>whnf)
   exact⟨_,ax.refl _,by rw[aV hall];rfl⟩
theorem pU (m0 m1 m2 m3 m4:Bool) (l:List qs) (h:Hd) (hh:h.Ok l.length) (hl:l.length≤140737488355328) :
 af Tryz.prog 86 [.agg ⟨[.bool m0,.bool m1,.bool m2,.bool m3,.bool m4,h.v l.length]⟩] (fun w=>ai w h.a (l.flatMap cK)) (fun v F=>v = .bool (allI l.length (fX l)&&(decide (l.length≤32) && !m0))):=by
 refine af.aG ae Tryz.func86 rfl (by decide) (n:=Tryz.f86.ntmps - 1) rfl rfl fun w0 av=>?_
 conv=>whnf
 repeat (refine aa.of ?_;conv=>whnf)
 intro b0
 conv=>whnf
 repeat (refine aa.of ?_;conv=>whnf)
 refine az.loop ae (ι:=Nat) (List.range' 3 27) (fun z=>z≤l.length∧∀ j,j<z→fX l j=true)
  (fun z=>[(3,.v (.int .i64 (z:Int)))]) (fun _=>[[.bool m0,.bool m1,.bool m2,.bool m3,.bool m4,h.v l.length]]) (fun _=>⟨fun w=>ai w h.a (l.flatMap cK),[]⟩)
  (fun z=>l.length - z) 0 ⟨Nat.zero_le _,fun j h=>by omega⟩ ?_ rfl (ax.of_le ⟨by simp[Value.cells],fun w hw=>hw⟩) fun i hi=>?_
 · conv=>whnf
   repeat (first | exact au.nil | refine au.any ?_ | refine au.cons ?_)
 obtain⟨hi,hall⟩:=hi
 conv=>whnf
 repeat (refine aa.of ?_;conv=>whnf)
 refine bF.split (fun hlt=>?_) (fun hlt=>?_)
 · have hlt':i<l.length:=by
    simp only[ao,decide_eq_true_eq] at hlt
    omega
   have hok:fX l i=(sK l[i] && !((l.take i).any fun y=>di y l[i])):=by
    unfold fX
    rw[bn hlt']
   have hnext:fX l i=true→∀ j,j<i+1→fX l j=true:=fun hs j hj=>by
    rcases Nat.lt_or_eq_of_le (Nat.lt_succ_iff.1 hj) with h5 | h5
    · exact hall j h5
    · exact h5 ▸ hs
   have hq1:=oP l[i]
   obtain⟨q1,heq1⟩ : ∃ q,q=sK l[i]:=⟨_,rfl⟩
   rw[← heq1] at hq1
   have hq2:=mD (l.take i) ⟨jM h.a 0 h.c 4,h.c - 0⟩ (by rw[oq hi];exact vi hh hi) (by rw[oq hi];omega) l[i]
   rw[oq hi] at hq2
   obtain⟨q2,heq2⟩ : ∃ q,q=((l.take i).any fun y=>di y l[i]):=⟨_,rfl⟩
   rw[← heq2] at hq2
   conv=>whnf
   repeat (refine aa.of ?_;conv=>whnf)
   refine az.draw ae mixed rfl rfl ?_
   conv=>whnf
   repeat' (first
    | (refine aw.val hq1 (fun w hw=>trivial) (fun v D hv=>?_);subst hv;cases q1<;>conv=>whnf)
    | (refine aw.val hq2 (fun w hw=>wY (cf:=cK) (z:=4) (fun _=>rfl) hw (by have:=hh.cap;omega)) (fun v D hv=>?_);subst hv;cases q2<;>conv=>whnf)
    | (refine ak.slice ae (t:=67) rfl rfl rfl (k1:=.i64) (k3:=.i64) (lo:=none) (hi:=some _) (mx:=none) 0 i h.c rfl rfl rfl (by omega) (by have:=hh.cap;omega) (Nat.le_refl _) (fun h=>by cases h) ?_;conv=>whnf)
    | (refine ak.index ae (t:=67) rfl rfl rfl (by first | omega) (by first | omega) hh.nil fun ad had=>?_;conv=>whnf)
    | (refine ak.aQ ae rfl rfl (ad:=ad) (k:=i*4) (L:=l.flatMap cK) (m:=cK l[i]) (.fact fun w hw=>had ▸ hw) ?adr (a8 (cf:=cK) (z:=4) (fun _=>rfl) hlt') rfl ?_;(case adr=>first | rfl);conv=>whnf))
   all_goals first
    | (refine⟨_,ax.refl _,?_⟩;rw[aJ hlt' (by rw[hok];((try subst heq1);(try subst heq2);(try subst heq3);simp only[cond_true,cond_false,ao,aC,aB,aD,aA,aE,decide_eq_true_eq,decide_eq_false_iff_not,beq_iff_eq,bne_iff_ne,ne_eq,beq_eq_false_iff_ne,bne_eq_false_iff_eq,Bool.not_eq_true,Bool.not_eq_false,Bool.and_true,Bool.true_and,Bool.and_false,Bool.false_and,Bool.or_true,Bool.or_false,Bool.true_or,Bool.false_or,Bool.not_eq_true',Bool.not_eq_false',Bool.not_true,Bool.not_false] at *;first | (simp_all;done)))];first | done | rfl)
    | (
     refine⟨i+1,⟨⟨hlt',hnext (by rw[hok];((try subst heq1);(try subst heq2);(try subst heq3);simp only[cond_true,cond_false,ao,aC,aB,aD,aA,aE,decide_eq_true_eq,decide_eq_false_iff_not,beq_iff_eq,bne_iff_ne,ne_eq,beq_eq_false_iff_ne,bne_eq_false_iff_eq,Bool.not_eq_true,Bool.not_eq_false,Bool.and_true,Bool.true_and,Bool.and_false,Bool.false_and,Bool.or_true,Bool.or_false,Bool.true_or,Bool.false_or,Bool.not_eq_true',Bool.not_eq_false',Bool.not_true,Bool.not_false] at *;first | (simp_all;done)))⟩,by dsimp only;omega⟩,?_,?_,ax.refl _⟩;(conv=>whnf);refine⟨?_,rfl⟩;repeat (first | exact au.nil | refine au.any ?_ | refine au.cons ?_ | refine au.eq (by rw[wrap_i64 (by omega)];rfl) ?_)
     (conv=>whnf);exact⟨⟨rfl,rfl⟩,trivial⟩)
 · have hie:i=l.length:=by
    simp only[ao,decide_eq_false_iff_not] at hlt
    omega
   subst hie
   conv=>whnf
   repeat (refine aa.of ?_;conv=>whnf)
   rw[aV hall,Bool.true_and]
   cases m0
   · repeat' (first
      | (split<;>conv=>whnf))
     all_goals refine⟨_,ax.refl _,?_⟩
     all_goals first | rfl | (congr 1;rw[Bool.eq_iff_iff];simp_all [aD,ao,aC,aB,aA,aE,and_assoc];omega)
   · repeat' (first
      | (split<;>conv=>whnf))
     all_goals refine⟨_,ax.refl _,?_⟩
     all_goals first | rfl | (congr 1;rw[Bool.eq_iff_iff];simp_all [aD,ao,aC,aB,aA,aE,and_assoc];done)
section
variable {P:Program} {aY:er} {w0:World} {R:Nat→Nat→Prop} {av:Nat→Prop} {bs:List (Nat×Nat)} {cs:List (List Value)} {F:Fx}
theorem ak.B2 (hT:bB P aY) {t:TypeId} {ti:TI} (ht:Sx.look aY t=some ti) (hk:ti.k.agg=true) {p ad:Addr} {k:Nat} {L m:List Value} {K:Value→Prop}
 (hs:aK w0 R av bs cs F (some ad) L) (hp:ad.spot=none→p=ad.add k) (hm:(L.drop k).take ti.size=m) (hl:m.length=ti.size) (h0:0<ti.size) (h:K (.agg ⟨m⟩)):ak P w0 R av (Instr.loadAt t (.pointer (some p))) bs cs F K:=by
 obtain⟨v,hv,hK⟩:=(bc _ _ _ _).1 (ak.aQ (K:=fun v=>v = .agg ⟨m⟩) hT ht hk (p:=ad.add k) hs rfl hm hl rfl)
 subst hK
 refine(bc _ _ _ _).2 ⟨_,fun w hst=>?_,h⟩
 have hlt:k<L.length:=by
  rcases Nat.lt_or_ge k L.length with h | h
  · exact h
  · rw[List.drop_eq_nil_of_le h,List.take_nil] at hm
    rw[← hm] at hl
    simp at hl
    omega
 rw[hp ((hs w hst).there (ne_of_lt hlt)).1]
 exact hv w hst
end
theorem pL (x:Rt):af Tryz.prog 158 [.agg ⟨s5 x⟩] (fun _=>True) (fun v F=>v = .bool (yo x)):=by
 unfold yo
 refine af.aG ae Tryz.func158 rfl (by decide) (n:=Tryz.f158.ntmps - 1) rfl rfl fun w0 av=>?_
 conv=>whnf
 repeat (refine aa.of ?_;conv=>whnf)
 intro b1
 conv=>whnf
 repeat (refine aa.of ?_;conv=>whnf)
 repeat' (first
  | (refine aa.of ?_;conv=>whnf)
  | (refine bF.split (fun h=>?_) (fun h=>?_)<;>conv=>whnf)
  | (split<;>conv=>whnf))
 all_goals refine⟨_,ax.refl _,?_⟩
 all_goals first | rfl | (congr 1;rw[Bool.eq_iff_iff];simp_all [aD,ao,aC,aB,aA,aE,and_assoc];done)
theorem xU : ∀ (i:Nat) (f:Field),(Array.toList (Tryz.prog.fieldsOf 156))[i]? = some f→f.name≠"_"∧f.offset=i∧Tryz.prog.underlying f.type=some (.int .i64):=by
 rw[show Tryz.prog.fieldsOf 156=_ from by unfold Program.fieldsOf;rw[Tryz.underlying156]]
 intro i f h
 match i with
 | 0=>cases h;exact⟨by decide,rfl,by kernel_rfl⟩
 | 1=>cases h;exact⟨by decide,rfl,by kernel_rfl⟩
 | 2=>cases h;exact⟨by decide,rfl,by kernel_rfl⟩
 | i+3=>simp at h
theorem D0:Tryz.prog.underlying 156=some (.struct (Tryz.prog.fieldsOf 156)):=by
 unfold Program.fieldsOf
 rw[Tryz.underlying156]
theorem Eb:(Tryz.prog.fieldsOf 156).size=3:=by
 unfold Program.fieldsOf
 rw[Tryz.underlying156]
 rfl
theorem zw:yx Tryz.prog 156 3:=by
 have:=yx.flat D0 (by kernel_rfl) xU
 rw[Eb] at this
 exact this
theorem vr (x y:Rt):([x.ty,x.peer,x.code] == [y.ty,y.peer,y.code])=eE x y:=by
 unfold eE
 rw[Bool.eq_iff_iff]
 simp[aA]
theorem zq {l:List Cp} {i:Nat} (hi:i<l.length):((l.flatMap bx).drop (i*6+3)).take 3=s5 l[i].r:=by
 have h:=a8 (cf:=bx) (z:=6) (fun _=>rfl) hi
 have h2:(((l.flatMap bx).drop (i*6)).take 6).drop 3=s5 l[i].r:=by rw[h];rfl
 rw[List.drop_take,List.drop_drop] at h2
 exact h2
theorem mj (nx:Value) (l:List Cp) (h:Hd) (hh:h.Ok l.length) (hl:l.length≤140737488355328) (o:Int) (r:Rt) :
 af Tryz.prog 98 [.agg ⟨[nx,h.v l.length]⟩,.int .i64 o,.agg ⟨s5 r⟩] (fun w=>ai w h.a (l.flatMap bx)) (fun v F=>v = .bool (dj l o r)):=by
 unfold dj
 rw[fM l (fun x=>aR x.owner o&&eE x.r r)]
 refine af.aG ae Tryz.func98 rfl (by decide) (n:=Tryz.f98.ntmps - 3) rfl rfl fun w0 av=>?_
 conv=>whnf
 repeat (refine aa.of ?_;conv=>whnf)
 intro b3
 conv=>whnf
 repeat (refine aa.of ?_;conv=>whnf)
 intro b5
 conv=>whnf
 repeat (refine aa.of ?_;conv=>whnf)
 refine az.loop ae (ι:=Nat) (List.range' 7 26) (fun z=>z≤l.length∧∀ j,j<z→cU l (fun x=>aR x.owner o&&eE x.r r) j=true)
  (fun z=>[(7,.v (.int .i64 (z:Int)))]) (fun _=>[[nx,h.v l.length],s5 r]) (fun _=>⟨fun w=>ai w h.a (l.flatMap bx),[]⟩)
  (fun z=>l.length - z) 0 ⟨Nat.zero_le _,fun j h=>by omega⟩ ?_ rfl (ax.of_le ⟨by simp[Value.cells],fun w hw=>hw⟩) fun i hi=>?_
 · conv=>whnf
   repeat (first | exact au.nil | refine au.any ?_ | refine au.cons ?_)
 obtain⟨hi,hall⟩:=hi
 conv=>whnf
 repeat (refine aa.of ?_;conv=>whnf)
 refine bF.split (fun hlt=>?_) (fun hlt=>?_)
 · have hlt':i<l.length:=by
    simp only[ao,decide_eq_true_eq] at hlt
    omega
   have hok:cU l (fun x=>aR x.owner o&&eE x.r r) i=(!(aR l[i].owner o&&eE l[i].r r)):=by
    unfold cU
    rw[bn hlt']
   obtain⟨a,ha⟩ : ∃ a,aR l[i].owner o=a:=⟨_,rfl⟩
   obtain⟨b,hb⟩ : ∃ b,eE l[i].r r=b:=⟨_,rfl⟩
   have hlb:([l[i].r.ty,l[i].r.peer,l[i].r.code] == [r.ty,r.peer,r.code])=b:=by rw[vr,hb]
   rw[ha,hb] at hok
   have hnext:cU l (fun x=>aR x.owner o&&eE x.r r) i=true→∀ j,j<i+1→cU l (fun x=>aR x.owner o&&eE x.r r) j=true:=fun hs j hj=>by
    rcases Nat.lt_or_eq_of_le (Nat.lt_succ_iff.1 hj) with h5 | h5
    · exact hall j h5
    · exact h5 ▸ hs
   conv=>whnf
   repeat (refine aa.of ?_;conv=>whnf)
   refine az.draw ae mixed rfl rfl ?_
   conv=>whnf
   repeat' (first
    | (refine ak.index ae (t:=31) rfl rfl rfl (by first | omega) (by first | omega) hh.nil fun ad had=>?_;conv=>whnf)
    | (refine ak.aH ae rfl rfl (ad:=ad) (k:=i*6+2) (L:=l.flatMap bx) (v:=.int .i64 l[i].owner) (.fact fun w hw=>had ▸ hw) ?adr (bY (cf:=bx) (z:=6) (fun _=>rfl) hlt' (by decide)) ?_;(case adr=>intro hs;first | rfl | (rw[Addr.bD hs];rfl));conv=>whnf)
    | (refine ak.B2 ae rfl rfl (ad:=ad) (k:=i*6+3) (L:=l.flatMap bx) (m:=s5 l[i].r) (.fact fun w hw=>had ▸ hw) ?adr ?hm rfl (by decide) ?_;(case adr=>intro hs;rw[Addr.bD hs];rfl);(case hm=>exact zq hlt');conv=>whnf)
    | (refine ak.BJ zw (by kernel_rfl) (xs:=[l[i].r.ty,l[i].r.peer,l[i].r.code]) (ys:=[r.ty,r.peer,r.code]) rfl rfl ?_;conv=>whnf)
    | (rw[ha];cases a<;>conv=>whnf)
    | (rw[show((bif true then ([l[i].r.ty,l[i].r.peer,l[i].r.code] == [r.ty,r.peer,r.code]) else false)=b) from hlb];cases b<;>conv=>whnf))
   · refine⟨i+1,⟨⟨hlt',hnext (by rw[hok];rfl)⟩,by dsimp only;omega⟩,?_,?_,ax.refl _⟩
     · conv=>whnf
       refine⟨?_,rfl⟩
       repeat (first | exact au.nil | refine au.any ?_ | refine au.cons ?_ | refine au.eq (by rw[wrap_i64 (by omega)];rfl) ?_)
     · conv=>whnf
       exact⟨⟨rfl,rfl⟩,⟨rfl,rfl⟩,trivial⟩
   · refine⟨i+1,⟨⟨hlt',hnext (by rw[hok];rfl)⟩,by dsimp only;omega⟩,?_,?_,ax.refl _⟩
     · conv=>whnf
       refine⟨?_,rfl⟩
       repeat (first | exact au.nil | refine au.any ?_ | refine au.cons ?_ | refine au.eq (by rw[wrap_i64 (by omega)];rfl) ?_)
     · conv=>whnf
       exact⟨⟨rfl,rfl⟩,⟨rfl,rfl⟩,trivial⟩
   · exact⟨_,ax.refl _,by rw[aJ hlt' (by rw[hok];rfl)];rfl⟩
 · have hie:i=l.length:=by
    simp only[ao,decide_eq_false_iff_not] at hlt
    omega
   subst hie
   conv=>whnf
   repeat (refine aa.of ?_;conv=>whnf)
   exact⟨_,ax.refl _,by rw[aV hall];rfl⟩
end Go.Proofs.YtlnhdpjnlffaoaaGreatDoor
namespace Go.Proofs.YtlnhdpjnlffaoaaGreatDoor
open Go Go.Sx
set_option maxRecDepth 100000
set_option maxHeartbeats 4000000
set_option linter.unusedVariables false
set_option linter.unusedSimpArgs false
def EE:Cp:=⟨0,0,0,⟨0,0,0⟩⟩
def nf (l:List Cp) (id:Int):Option Cp:=l.find? fun x=>aR x.id id
theorem r3 (l:List Cp) (h:Hd) (hh:h.Ok l.length) (hl:l.length≤140737488355328) (id:Int) :
 af Tryz.prog 157 [h.v l.length,.int .i64 id] (fun w=>ai w h.a (l.flatMap bx)) (fun v F=>v = .tuple ⟨[.agg ⟨bx ((nf l id).getD EE)⟩,.bool (nf l id).isSome]⟩):=by
 refine af.aG ae Tryz.func157 rfl (by decide) (n:=Tryz.f157.ntmps - 2) rfl rfl fun w0 av=>?_
 conv=>whnf
 repeat (refine aa.of ?_;conv=>whnf)
 intro b4
 conv=>whnf
 repeat (refine aa.of ?_;conv=>whnf)
 refine az.loop ae (ι:=Nat) (List.range' 6 19) (fun k=>k≤l.length∧∀ j (hj:j<l.length),j<k→aR l[j].id id=false)
  (fun k=>[(6,.v (.int .i64 (k:Int)))]) (fun _=>[bx EE]) (fun _=>⟨fun w=>ai w h.a (l.flatMap bx),[]⟩)
  (fun k=>l.length - k) 0 ⟨Nat.zero_le _,fun j hj h=>by omega⟩ ?_ rfl (ax.of_le ⟨by simp[Value.cells],fun w hw=>hw⟩) fun i hi=>?_
 · conv=>whnf
   repeat (first | exact au.nil | refine au.any ?_ | refine au.cons ?_)
 obtain⟨hi,hall⟩:=hi
 conv=>whnf
 repeat (refine aa.of ?_;conv=>whnf)
 refine bF.split (fun hlt=>?_) (fun hlt=>?_)
 · have hlt':i<l.length:=by
    simp only[ao,decide_eq_true_eq] at hlt
    omega
   obtain⟨a,ha⟩ : ∃ a,aR l[i].id id=a:=⟨_,rfl⟩
   have hyes:aR l[i].id id=true→nf l id=some l[i]:=fun hq=>by
    unfold nf
    rw[List.find?_eq_some_iff_getElem]
    exact⟨hq,i,hlt',rfl,fun j hj=>by simpa using hall j (by omega) hj⟩
   conv=>whnf
   repeat (refine aa.of ?_;conv=>whnf)
   repeat' (first
    | (refine ar.aj (ak.index ae (t:=31) rfl rfl rfl (by first | omega) (by first | omega) hh.nil fun ad had=>?_);conv=>whnf)
    | (refine ar.aj (ak.aQ ae rfl rfl (ad:=ad) (k:=i*6) (L:=l.flatMap bx) (m:=bx l[i]) (.fact fun w hw=>had ▸ hw) ?adr (a8 (cf:=bx) (z:=6) (fun _=>rfl) hlt') rfl ?_);(case adr=>first | rfl);conv=>whnf)
    | (refine ar.aj (ak.aH ae rfl rfl (ad:=ad) (k:=i*6+0) (L:=l.flatMap bx) (v:=.int .i64 l[i].id) (.fact fun w hw=>had ▸ hw) ?adr (bY (cf:=bx) (z:=6) (fun _=>rfl) hlt' (by decide)) ?_);(case adr=>intro hs;first | rfl);conv=>whnf)
    | (rw[ha];cases a<;>conv=>whnf))
   · refine⟨i+1,⟨⟨hlt',fun j hj h=>?_⟩,by dsimp only;omega⟩,?_,?_,ax.refl _⟩
     · rcases Nat.lt_or_eq_of_le (Nat.lt_succ_iff.1 h) with h5 | h5
       · exact hall j hj h5
       · subst h5
         exact ha
     · conv=>whnf
       refine⟨?_,rfl⟩
       repeat (first | exact au.nil | refine au.any ?_ | refine au.cons ?_ | refine au.eq (by rw[wrap_i64 (by omega)];rfl) ?_)
     · conv=>whnf
       exact⟨⟨rfl,rfl⟩,trivial⟩
   · exact⟨_,ax.refl _,by rw[hyes ha];rfl⟩
 · have hie:i=l.length:=by
    simp only[ao,decide_eq_false_iff_not] at hlt
    omega
   subst hie
   have hno:nf l id=none:=by
    unfold nf
    rw[List.find?_eq_none]
    intro y hy
    obtain⟨j,hj,rfl⟩:=List.getElem_of_mem hy
    simpa using hall j hj hj
   conv=>whnf
   repeat (refine aa.of ?_;conv=>whnf)
   exact⟨_,ax.refl _,by rw[hno];rfl⟩
def oz (o:Option Cp) (r:Rt):Bool:=match o with
 | none=>false
 | some c=>eE c.r r
def m6 (nx:Int) (l:List Cp) (j:Nat):Bool:=decide (1≤l[j]!.id∧l[j]!.id<nx∧(0<j→l[j - 1]!.id<l[j]!.id))&&(yo l[j]!.r&&(decide (0≤l[j]!.owner∧l[j]!.owner<32)&&((if l[j]!.parent=0 then decide (l[j]!.owner=0) else oz (nf (l.take j) l[j]!.parent) l[j]!.r) && !dj (l.take j) l[j]!.owner l[j]!.r)))
theorem qC (nx:Int) (l:List Cp) (h:Hd) (hh:h.Ok l.length) (hl:l.length≤140737488355328) :
 af Tryz.prog 90 [.agg ⟨[.int .i64 nx,h.v l.length]⟩] (fun w=>ai w h.a (l.flatMap bx)) (fun v F=>v = .bool (decide (l.length≤400∧1≤nx∧nx≤1099511627776)&&allI l.length (m6 nx l))):=by
 obtain⟨c,hc⟩ : ∃ c,decide (l.length≤400∧1≤nx∧nx≤1099511627776)=c:=⟨_,rfl⟩
 rw[hc]
 refine af.aG ae Tryz.func90 rfl (by decide) (n:=Tryz.f90.ntmps - 1) rfl rfl fun w0 av=>?_
 conv=>whnf
 repeat (refine aa.of ?_;conv=>whnf)
 intro b1
 conv=>whnf
 repeat (refine aa.of ?_;conv=>whnf)
 repeat' (first
  | (split<;>conv=>whnf))
 · rename_i hx
   refine⟨_,ax.refl _,?_⟩
   have hcf:c=false:=by
    rw[← hc,decide_eq_false_iff_not]
    simp only[aB,ao,decide_eq_true_eq,Bool.or_eq_true] at hx
    omega
   rw[hcf]
   rfl
 rename_i hx
 have hct:c=true:=by
  rw[← hc,decide_eq_true_eq]
  simp only[aB,ao,Bool.or_eq_true,Bool.or_eq_false_iff,decide_eq_true_eq,decide_eq_false_iff_not,not_or] at hx
  omega
 rw[hct,Bool.true_and]
 clear hx
 conv=>whnf
 repeat (refine aa.of ?_;conv=>whnf)
 refine az.loop ae (ι:=Nat) ([3,4,5,6]++List.range' 21 100) (fun z=>z≤l.length∧∀ j,j<z→m6 nx l j=true)
  (fun z=>[(3,.v (.int .i64 (z:Int)))]) (fun _=>[[.int .i64 nx,h.v l.length]]) (fun _=>⟨fun w=>ai w h.a (l.flatMap bx),[]⟩)
  (fun z=>l.length - z) 0 ⟨Nat.zero_le _,fun j h=>by omega⟩ ?_ rfl (ax.of_le ⟨by simp[Value.cells],fun w hw=>hw⟩) fun i hi=>?_
 · conv=>whnf
   repeat (first | exact au.nil | refine au.any ?_ | refine au.cons ?_)
 obtain⟨hi,hall⟩:=hi
 conv=>whnf
 repeat (refine aa.of ?_;conv=>whnf)
 refine bF.split (fun hlt=>?_) (fun hlt=>?_)
 · have hlt':i<l.length:=by
    simp only[ao,decide_eq_true_eq] at hlt
    omega
   have hok:m6 nx l i=(decide (1≤l[i].id∧l[i].id<nx∧(0<i→l[i - 1]!.id<l[i].id))&&(yo l[i].r&&(decide (0≤l[i].owner∧l[i].owner<32)&&((if l[i].parent=0 then decide (l[i].owner=0) else oz (nf (l.take i) l[i].parent) l[i].r) && !dj (l.take i) l[i].owner l[i].r)))):=by
    unfold m6
    rw[bn hlt']
   have hnext:m6 nx l i=true→∀ j,j<i+1→m6 nx l j=true:=fun hs j hj=>by
    rcases Nat.lt_or_eq_of_le (Nat.lt_succ_iff.1 hj) with h5 | h5
    · exact hall j h5
    · exact h5 ▸ hs
   obtain⟨x,hx⟩ : ∃ x,l[i]=x:=⟨_,rfl⟩
   have hf:=r3 (l.take i) ⟨jM h.a 0 h.c 6,h.c - 0⟩ (by rw[oq hi];exact vi hh hi) (by rw[oq hi];omega) x.parent
   have hs:=mj (.int .i64 0) (l.take i) ⟨jM h.a 0 h.c 6,h.c - 0⟩ (by rw[oq hi];exact vi hh hi) (by rw[oq hi];omega) x.owner x.r
   have hp:=pL x.r
   rw[oq hi] at hf hs
   rw[hx] at hok
   obtain⟨o,ho⟩ : ∃ o,nf (l.take i) x.parent=o:=⟨_,rfl⟩
   obtain⟨q1,hq1⟩ : ∃ q,yo x.r=q:=⟨_,rfl⟩
   obtain⟨q5,hq5⟩ : ∃ q,dj (l.take i) x.owner x.r=q:=⟨_,rfl⟩
   rw[ho] at hok hf
   rw[hq1] at hok hp
   rw[hq5] at hok hs
   obtain⟨g,hgd⟩ : ∃ g,gY (i:Int) 0=g:=⟨_,rfl⟩
   have hgi:g=true↔0<i:=by rw[← hgd,aB,decide_eq_true_eq];omega
   have hj:i - 1<l.length:=by omega
   have hw1':0<i→IntKind.i64.wrap ((i:Int) - 1)=((i - 1:Nat):Int):=fun h0=>by
    rw[wrap_i64 (by omega)]
    omega
   have hpre : ∀ w,ai w h.a (l.flatMap bx)→ai w (jM h.a 0 h.c 6) ((l.take i).flatMap bx):=fun w hw=>wY (cf:=bx) (z:=6) (fun _=>rfl) hw (by have:=hh.cap;omega)
   conv=>whnf
   repeat (refine aa.of ?_;conv=>whnf)
   repeat' (first
    | (refine ar.aj (ak.index ae (t:=31) rfl rfl rfl (by first | omega) (by first | omega) hh.nil fun ad had=>?_);conv=>whnf)
    | (refine ar.aj (ak.aQ ae rfl rfl (ad:=ad) (k:=i*6) (L:=l.flatMap bx) (m:=bx l[i]) (.fact fun w hw=>had ▸ hw) ?adr (a8 (cf:=bx) (z:=6) (fun _=>rfl) hlt') rfl ?_);(case adr=>first | rfl);conv=>whnf))
   rw[hx]
   intro b4
   conv=>whnf
   repeat (refine aa.of ?_;conv=>whnf)
   refine az.draw ae mixed rfl rfl ?_
   conv=>whnf
   repeat' (first
    | (refine And.intro ?_ ?_<;>conv=>whnf)
    | (refine dv.of ?_;conv=>whnf)
    | (refine ak.slice ae (t:=31) rfl rfl rfl (k1:=.i64) (k3:=.i64) (lo:=none) (hi:=some _) (mx:=none) 0 i h.c rfl rfl rfl (by omega) (by have:=hh.cap;omega) (Nat.le_refl _) (fun h=>by cases h) ?_;conv=>whnf)
    | (refine aw.val hf (fun w hw=>hpre w hw) (fun v D hv=>?_);subst hv;conv=>whnf)
    | (intro b5;conv=>whnf))
   all_goals
    obtain⟨t1,ht1⟩ : ∃ t,fI x.id 1=t:=⟨_,rfl⟩
    obtain⟨t2,ht2⟩ : ∃ t,dL x.id nx=t:=⟨_,rfl⟩
    obtain⟨t5,ht5⟩ : ∃ t,fI x.owner 0=t:=⟨_,rfl⟩
    obtain⟨t6,ht6⟩ : ∃ t,dL x.owner 32=t:=⟨_,rfl⟩
    obtain⟨u1,hu1⟩ : ∃ t,aR x.parent 0=t:=⟨_,rfl⟩
    obtain⟨u2,hu2⟩ : ∃ t,fw x.owner 0=t:=⟨_,rfl⟩
    have hu3:fw x.parent 0 = !u1:=by rw[← hu1,aE,aA];rfl
    have hpa:(if x.parent=0 then decide (x.owner=0) else oz o x.r)=(bif u1 then !u2 else oz o x.r):=by
     rw[← hu1,← hu2]
     rw[aA,aE]
     by_cases hz:x.parent=0
     · rw[if_pos hz,hz]
       by_cases hy:x.owner=0<;>simp[hy]
     · rw[if_neg hz,beq_eq_false_iff_ne.2 hz]
       rfl
    have ho5:decide (0≤x.owner∧x.owner<32)=(!t5 && !t6):=by
     rw[← ht5,← ht6,Bool.eq_iff_iff]
     simp[ao,aD]
     try omega
    conv=>whnf
    repeat (refine aa.of ?_;conv=>whnf)
    refine az.draw ae mixed rfl rfl ?_
    conv=>whnf
    rcases Nat.eq_zero_or_pos i with h0 | h0
    · have hg:gY (i:Int) 0=false:=by simp[aB];omega
      have hok2:m6 nx l i=((!t1 && !t2)&&(q1&&((!t5 && !t6)&&((bif u1 then !u2 else oz o x.r) && !q5)))):=by
       rw[hok,hpa,ho5,← ht1,← ht2]
       congr 1
       rw[Bool.eq_iff_iff]
       simp[ao,aD,h0]
       try omega
      clear hok
      repeat' (first
       | (refine dv.of ?_;conv=>whnf)
       | (rw[hg];conv=>whnf)
       | (rw[ht1];cases t1<;>conv=>whnf)
       | (rw[ht2];cases t2<;>conv=>whnf)
       | (refine aw.val hp (fun w hw=>trivial) (fun v D hv=>?_);subst hv;cases q1<;>conv=>whnf)
       | (rw[ht5];cases t5<;>conv=>whnf)
       | (rw[ht6];cases t6<;>conv=>whnf))
      all_goals try exact⟨_,ax.refl _,by rw[aJ hlt' (hok2.trans rfl)]⟩
      rcases o with _ | c
      · rw[show oz none x.r=false from rfl] at hok2
        conv=>whnf
        repeat (refine aa.of ?_;conv=>whnf)
        refine az.draw ae mixed rfl rfl ?_
        conv=>whnf
        repeat' (first
         | (refine dv.of ?_;conv=>whnf)
         | (rw[hu1];cases u1<;>conv=>whnf)
         | (rw[hu2];cases u2<;>conv=>whnf)
         | (rw[hu3];conv=>whnf)
         | (refine ak.slice ae (t:=31) rfl rfl rfl (k1:=.i64) (k3:=.i64) (lo:=none) (hi:=some _) (mx:=none) 0 i h.c rfl rfl rfl (by omega) (by have:=hh.cap;omega) (Nat.le_refl _) (fun h=>by cases h) ?_;conv=>whnf)
         | (refine aw.val hs (fun w hw=>hpre w hw) (fun v D hv=>?_);subst hv;cases q5<;>conv=>whnf))
        all_goals first
         | exact⟨_,ax.refl _,by rw[aJ hlt' (hok2.trans (by first | rfl))]⟩
         | (
          refine⟨i+1,⟨⟨hlt',hnext (hok2.trans (by first | rfl))⟩,by dsimp only;omega⟩,?_,?_,ax.refl _⟩;(conv=>whnf);refine⟨?_,rfl⟩;repeat (first | exact au.nil | refine au.any ?_ | refine au.cons ?_ | refine au.eq (by rw[wrap_i64 (by omega)];rfl) ?_)
          (conv=>whnf);exact⟨⟨rfl,rfl⟩,trivial⟩)
        all_goals (set_option pp.deepTerms false in set_option pp.deepTerms.threshold 6 in set_option pp.maxSteps 600 in trace_state)
      · obtain⟨u4,hu4⟩ : ∃ t,eE c.r x.r=t:=⟨_,rfl⟩
        rw[show oz (some c) x.r=u4 from hu4] at hok2
        conv=>whnf
        repeat (refine aa.of ?_;conv=>whnf)
        refine az.draw ae mixed rfl rfl ?_
        conv=>whnf
        repeat' (first
         | (refine dv.of ?_;conv=>whnf)
         | (rw[hu1];cases u1<;>conv=>whnf)
         | (rw[hu2];cases u2<;>conv=>whnf)
         | (rw[hu3];conv=>whnf)
         | (refine ak.yX zw (by kernel_rfl) (xs:=[c.r.ty,c.r.peer,c.r.code]) (ys:=[x.r.ty,x.r.peer,x.r.code]) rfl rfl ?_;rw[vr,hu4];cases u4<;>conv=>whnf)
         | (refine ak.slice ae (t:=31) rfl rfl rfl (k1:=.i64) (k3:=.i64) (lo:=none) (hi:=some _) (mx:=none) 0 i h.c rfl rfl rfl (by omega) (by have:=hh.cap;omega) (Nat.le_refl _) (fun h=>by cases h) ?_;conv=>whnf)
         | (refine aw.val hs (fun w hw=>hpre w hw) (fun v D hv=>?_);subst hv;cases q5<;>conv=>whnf))
        all_goals first
         | exact⟨_,ax.refl _,by rw[aJ hlt' (hok2.trans (by first | rfl))]⟩
         | (
          refine⟨i+1,⟨⟨hlt',hnext (hok2.trans (by first | rfl))⟩,by dsimp only;omega⟩,?_,?_,ax.refl _⟩;(conv=>whnf);refine⟨?_,rfl⟩;repeat (first | exact au.nil | refine au.any ?_ | refine au.cons ?_ | refine au.eq (by rw[wrap_i64 (by omega)];rfl) ?_)
          (conv=>whnf);exact⟨⟨rfl,rfl⟩,trivial⟩)
        all_goals (set_option pp.deepTerms false in set_option pp.deepTerms.threshold 6 in set_option pp.maxSteps 600 in trace_state)
    · have hg:gY (i:Int) 0=true:=by simp[aB];omega
      have hw1:=hw1' h0
      obtain⟨t3,ht3⟩ : ∃ t,eW x.id l[i - 1].id=t:=⟨_,rfl⟩
      have hok2:m6 nx l i=((!t1&&(!t2 && !t3))&&(q1&&((!t5 && !t6)&&((bif u1 then !u2 else oz o x.r) && !q5)))):=by
       rw[hok,hpa,ho5,← ht1,← ht2,← ht3,bn hj]
       congr 1
       rw[Bool.eq_iff_iff]
       simp[ao,aD,aC,h0]
       try omega
      clear hok
      repeat' (first
       | (refine cj.same rfl ?_;conv=>whnf)
       | (refine dv.of ?_;conv=>whnf)
       | (rw[hg];conv=>whnf)
       | (refine ak.index ae (t:=31) rfl rfl rfl (by first | omega) (by first | omega) hh.nil fun ad had=>?_;conv=>whnf)
       | (refine ak.aH ae rfl rfl (ad:=ad) (k:=(i - 1)*6+0) (L:=l.flatMap bx) (v:=.int .i64 l[i - 1].id) (.fact fun w hw=>had ▸ hw) ?adr (bY (cf:=bx) (z:=6) (fun _=>rfl) hj (by decide)) ?_;(case adr=>intro hs;first | rfl | (rw[hw1,Addr.bD hs];rfl));conv=>whnf)
       | (rw[ht3];cases t3<;>conv=>whnf)
       | (rw[ht1];cases t1<;>conv=>whnf)
       | (rw[ht2];cases t2<;>conv=>whnf)
       | (refine aw.val hp (fun w hw=>trivial) (fun v D hv=>?_);subst hv;cases q1<;>conv=>whnf)
       | (rw[ht5];cases t5<;>conv=>whnf)
       | (rw[ht6];cases t6<;>conv=>whnf))
      all_goals try exact⟨_,ax.refl _,by rw[aJ hlt' (hok2.trans rfl)]⟩
      rcases o with _ | c
      · rw[show oz none x.r=false from rfl] at hok2
        conv=>whnf
        repeat (refine aa.of ?_;conv=>whnf)
        refine az.draw ae mixed rfl rfl ?_
        conv=>whnf
        repeat' (first
         | (refine dv.of ?_;conv=>whnf)
         | (rw[hu1];cases u1<;>conv=>whnf)
         | (rw[hu2];cases u2<;>conv=>whnf)
         | (rw[hu3];conv=>whnf)
         | (refine ak.slice ae (t:=31) rfl rfl rfl (k1:=.i64) (k3:=.i64) (lo:=none) (hi:=some _) (mx:=none) 0 i h.c rfl rfl rfl (by omega) (by have:=hh.cap;omega) (Nat.le_refl _) (fun h=>by cases h) ?_;conv=>whnf)
         | (refine aw.val hs (fun w hw=>hpre w hw) (fun v D hv=>?_);subst hv;cases q5<;>conv=>whnf))
        all_goals first
         | exact⟨_,ax.refl _,by rw[aJ hlt' (hok2.trans (by first | rfl))]⟩
         | (
          refine⟨i+1,⟨⟨hlt',hnext (hok2.trans (by first | rfl))⟩,by dsimp only;omega⟩,?_,?_,ax.refl _⟩;(conv=>whnf);refine⟨?_,rfl⟩;repeat (first | exact au.nil | refine au.any ?_ | refine au.cons ?_ | refine au.eq (by rw[wrap_i64 (by omega)];rfl) ?_)
          (conv=>whnf);exact⟨⟨rfl,rfl⟩,trivial⟩)
        all_goals (set_option pp.deepTerms false in set_option pp.deepTerms.threshold 6 in set_option pp.maxSteps 600 in trace_state)
      · obtain⟨u4,hu4⟩ : ∃ t,eE c.r x.r=t:=⟨_,rfl⟩
        rw[show oz (some c) x.r=u4 from hu4] at hok2
        conv=>whnf
        repeat (refine aa.of ?_;conv=>whnf)
        refine az.draw ae mixed rfl rfl ?_
        conv=>whnf
        repeat' (first
         | (refine dv.of ?_;conv=>whnf)
         | (rw[hu1];cases u1<;>conv=>whnf)
         | (rw[hu2];cases u2<;>conv=>whnf)
         | (rw[hu3];conv=>whnf)
         | (refine ak.yX zw (by kernel_rfl) (xs:=[c.r.ty,c.r.peer,c.r.code]) (ys:=[x.r.ty,x.r.peer,x.r.code]) rfl rfl ?_;rw[vr,hu4];cases u4<;>conv=>whnf)
         | (refine ak.slice ae (t:=31) rfl rfl rfl (k1:=.i64) (k3:=.i64) (lo:=none) (hi:=some _) (mx:=none) 0 i h.c rfl rfl rfl (by omega) (by have:=hh.cap;omega) (Nat.le_refl _) (fun h=>by cases h) ?_;conv=>whnf)
         | (refine aw.val hs (fun w hw=>hpre w hw) (fun v D hv=>?_);subst hv;cases q5<;>conv=>whnf))
        all_goals first
         | exact⟨_,ax.refl _,by rw[aJ hlt' (hok2.trans (by first | rfl))]⟩
         | (
          refine⟨i+1,⟨⟨hlt',hnext (hok2.trans (by first | rfl))⟩,by dsimp only;omega⟩,?_,?_,ax.refl _⟩;(conv=>whnf);refine⟨?_,rfl⟩;repeat (first | exact au.nil | refine au.any ?_ | refine au.cons ?_ | refine au.eq (by rw[wrap_i64 (by omega)];rfl) ?_)
          (conv=>whnf);exact⟨⟨rfl,rfl⟩,trivial⟩)
        all_goals (set_option pp.deepTerms false in set_option pp.deepTerms.threshold 6 in set_option pp.maxSteps 600 in trace_state)
 · have hie:i=l.length:=by
    simp only[ao,decide_eq_false_iff_not] at hlt
    omega
   subst hie
   conv=>whnf
   repeat (refine aa.of ?_;conv=>whnf)
   exact⟨_,ax.refl _,by rw[aV hall]⟩
theorem pH {nx:Int} {l:List Cp} : ∀ {n:Nat},(∀ j,j<n→dR nx l j=true)→0≤fa l n
 | 0,_=>Int.le_refl _
 | n+1,h=>by
  have h1:=gg (h n (by omega))
  have h2:=pH (n:=n) fun j hj=>h j (by omega)
  show 0≤l[n]!.id
  omega
theorem BV {α:Type} {l:List α} {n:Nat} (h:n<l.length):l.take (n+1)=l.take n ++ [l[n]]:=by simp
theorem zz (x y:Rt):eE x y=true↔x=y:=by
 obtain⟨a,b,c⟩:=x
 obtain⟨d,e,f⟩:=y
 simp[eE,aA]
theorem wH (l:List Cp) (o:Int) (r:Rt) : ∀ n,n≤l.length→zR l n (o,r)=dj (l.take n) o r
 | 0,_=>rfl
 | n+1,h=>by
  have ih:=wH l o r n (by omega)
  unfold zR
  unfold dj at ih ⊢
  rw[BV (by omega),List.any_append,← ih,bn (by omega),Bool.eq_iff_iff]
  have hq:=zz l[n].r r
  by_cases hb:(l[n].owner,l[n].r)=(o,r)
  · rw[if_pos hb]
    obtain⟨h1,h2⟩:=Prod.mk.inj hb
    simp[aA,h1,hq.2 h2]
  · rw[if_neg hb]
    have:(aR l[n].owner o&&eE l[n].r r)=false:=by
     cases hx:eE l[n].r r
     · simp
     · have h2:=hq.1 hx
       have:l[n].owner≠o:=fun h1=>hb (by rw[h1,h2])
       simp[aA,this]
    simp[this]
theorem zG {nx:Int} {l:List Cp} (id:Int) : ∀ n,n≤l.length→(∀ j,j<n→dR nx l j=true)→rO l n id=(nf (l.take n) id).map (·.r)
 | 0,_,_=>rfl
 | n+1,h,hc=>by
  have ih:=zG id n (by omega) fun j hj=>hc j (by omega)
  unfold rO
  unfold nf at ih ⊢
  rw[BV (by omega),List.find?_append,bn (by omega)]
  by_cases hb:l[n].id=id
  · have h0:rO l n id=none:=nE (fun j hj=>gg (hc j (by omega))) (by
     have:=gg (hc n (by omega))
     rwa [bn (by omega),hb] at this)
    rw[h0] at ih
    have h1:(l.take n).find? (fun x=>aR x.id id)=none:=by
     cases hx:(l.take n).find? (fun x=>aR x.id id)
     · rfl
     · rw[hx] at ih
       cases ih
    rw[if_pos hb,h1]
    simp[aA,hb]
  · rw[if_neg hb,ih]
    have : [l[n]].find? (fun x=>aR x.id id)=none:=by simp[aA,hb]
    rw[this]
    simp
theorem re {nx:Int} {l:List Cp} {n:Nat} (h:n<l.length) (hc : ∀ j,j<n→dR nx l j=true):m6 nx l n=dR nx l n:=by
 have h1:=zG l[n]!.parent n (by omega) hc
 have h2:=wH l l[n]!.owner l[n]!.r n (by omega)
 have h3:=pH hc
 have h4:decide (fa l n<l[n]!.id)=decide (1≤l[n]!.id∧(0<n→l[n - 1]!.id<l[n]!.id)):=by
  rw[decide_eq_decide]
  cases n with
  | zero=>
   show(0:Int)<_↔_
   simp
   omega
  | succ m=>
   have:fa l (m+1)=l[m]!.id:=rfl
   rw[this] at h3 ⊢
   exact⟨fun h=>⟨by omega,fun _=>h⟩,fun h=>h.2 (by omega)⟩
 unfold m6 dR
 rw[h1,h2,h4]
 generalize nf (l.take n) l[n]!.parent=o at *
 generalize dj (l.take n) l[n]!.owner l[n]!.r=q1 at *
 generalize yo l[n]!.r=q2 at *
 obtain⟨q3,hq3⟩ : ∃ q,(if l[n]!.parent=0 then decide (l[n]!.owner=0) else oz o l[n]!.r)=q:=⟨_,rfl⟩
 have h5:(if l[n]!.parent=0 then decide (l[n]!.owner=0) else match o.map (·.r) with | none=>false | some r=>eE r l[n]!.r)=q3:=by
  rw[← hq3]
  cases o<;>rfl
 rw[hq3]
 refine Eq.trans ?_ (congrArg (fun z=>decide (1≤l[n]!.id∧(0<n→l[n - 1]!.id<l[n]!.id))&&(decide (l[n]!.id<nx)&&(q2&&(decide (0≤l[n]!.owner∧l[n]!.owner<32)&&(!q1&&z))))) h5.symm)
 rw[Bool.eq_iff_iff]
 simp
 cases q1<;>cases q2<;>cases q3<;>simp
 constructor
 · intro h
   exact⟨⟨h.1.1,h.1.2.2⟩,h.1.2.1,h.2⟩
 · intro h
   exact⟨⟨h.1.1,h.2.1,h.1.2⟩,h.2.2⟩
theorem yj (nx:Int) (l:List Cp):allI l.length (m6 nx l)=allI l.length (dR nx l):=by
 have h : ∀ n,n≤l.length→((∀ j,j<n→m6 nx l j=true)↔∀ j,j<n→dR nx l j=true):=by
  intro n
  induction n with
  | zero=>exact fun _=>⟨fun _ j h=>by omega,fun _ j h=>by omega⟩
  | succ n ih=>
   intro hn
   have ih:=ih (by omega)
   constructor
   · intro hc j hj
     have h1:=ih.1 fun j hj=>hc j (by omega)
     by_cases he:j=n
     · rw[he,← re (by omega) h1]
       exact hc n (by omega)
     · exact h1 j (by omega)
   · intro hc j hj
     by_cases he:j=n
     · rw[he,re (by omega) fun j hj=>hc j (by omega)]
       exact hc n (by omega)
     · exact(ih.2 fun j hj=>hc j (by omega)) j (by omega)
 rw[Bool.eq_iff_iff,dB,dB]
 exact h l.length (Nat.le_refl _)
theorem sZ (nx:Int) (l:List Cp) (h:Hd) (hh:h.Ok l.length) (hl:l.length≤140737488355328) :
 af Tryz.prog 90 [.agg ⟨[.int .i64 nx,h.v l.length]⟩] (fun w=>ai w h.a (l.flatMap bx)) (fun v F=>v = .bool (allI l.length (dR nx l)&&decide (l.length≤400∧1≤nx∧nx≤1099511627776))):=by
 have:=qC nx l h hh hl
 rw[yj,Bool.and_comm] at this
 exact this
theorem kU (n:Int):af Tryz.prog 221 [.int .i64 n] (fun _=>True) (fun v F=>v = .bool (decide (1≤n∧n<32))):=by
 refine af.aG ae Tryz.func221 rfl (by decide) (n:=Tryz.f221.ntmps - 1) rfl rfl fun w0 av=>?_
 conv=>whnf
 repeat (refine aa.of ?_;conv=>whnf)
 repeat' (first
  | (refine cj.mk ?_ ?_;(focus (first | exact ax.refl _ | exact ax.left _ _ | exact ax.of_le ⟨List.sublist_append_left _ _,fun w h=>h⟩ | exact ax.of_le ⟨List.Sublist.refl _,fun w h=>h.1⟩));conv=>whnf))
 all_goals refine⟨_,ax.refl _,?_⟩
 all_goals first | rfl | (congr 1;rw[Bool.eq_iff_iff];simp_all [aD,ao,aC,aB,aA,aE,and_assoc];done)
def jK (a b:Int):Bool:=aR (Sx.bits .or .i64 a b) a
theorem iV (a b:Int):af Tryz.prog 166 [.int .i64 a,.int .i64 b] (fun _=>True) (fun v F=>v = .bool (jK a b)):=by
 refine af.aG ae Tryz.func166 rfl (by decide) (n:=Tryz.f166.ntmps - 2) rfl rfl fun w0 av=>?_
 conv=>whnf
 repeat (refine aa.of ?_;conv=>whnf)
 exact⟨_,ax.refl _,rfl⟩
theorem sB {a b:Int} (ha:1≤a∧a≤3) (hb:1≤b∧b≤3):jK a b=pV a b:=by
 obtain rfl | rfl | rfl:a=1∨a=2∨a=3:=by omega
 all_goals
  obtain rfl | rfl | rfl:b=1∨b=2∨b=3:=by omega
  all_goals kernel_rfl
theorem pk (x y:Gr):af Tryz.prog 160 [.agg ⟨bM x⟩,.agg ⟨bM y⟩] (fun _=>True) (fun v F=>v = .bool (decide (dN x.frame y.frame x.grantee y.grantee<0))):=by
 have e:decide (dN x.frame y.frame x.grantee y.grantee<0)=decide (x.frame<y.frame∨(x.frame=y.frame∧x.grantee<y.grantee)):=decide_eq_decide.2 (la _ _ _ _)
 rw[e]
 refine af.aG ae Tryz.func160 rfl (by decide) (n:=Tryz.f160.ntmps - 2) rfl rfl fun w0 av=>?_
 conv=>whnf
 repeat (refine aa.of ?_;conv=>whnf)
 intro b0
 conv=>whnf
 repeat (refine aa.of ?_;conv=>whnf)
 intro b1
 conv=>whnf
 repeat (refine aa.of ?_;conv=>whnf)
 repeat' (first
  | (split<;>conv=>whnf))
 all_goals refine⟨_,ax.refl _,?_⟩
 all_goals first | rfl | (congr 1;rw[Bool.eq_iff_iff];simp_all [aD,ao,aC,aB,aA,aE,and_assoc];done)
theorem oF (x:Gr):af Tryz.prog 159 [.agg ⟨bM x⟩] (fun _=>True) (fun v F=>v = .bool (xp x)):=by
 have h1:=kU x.owner
 have h2:=kU x.grantee
 have e:xp x=(decide (1≤x.owner∧x.owner<32)&&(decide (1≤x.grantee∧x.grantee<32)&&decide (x.owner≠x.grantee∧x.grantee≠4∧0≤x.frame∧x.frame<96∧(1≤x.rights∧x.rights≤3)))):=by
  unfold xp
  rw[Bool.eq_iff_iff]
  simp
 rw[e]
 generalize decide (1≤x.owner∧x.owner<32)=q1 at *
 generalize decide (1≤x.grantee∧x.grantee<32)=q2 at *
 refine af.aG ae Tryz.func159 rfl (by decide) (n:=Tryz.f159.ntmps - 1) rfl rfl fun w0 av=>?_
 conv=>whnf
 repeat (refine aa.of ?_;conv=>whnf)
 intro b1
 conv=>whnf
 repeat (refine aa.of ?_;conv=>whnf)
 repeat' (first
  | (refine aa.of ?_;conv=>whnf)
  | (refine aw.val h1 (fun w hw=>trivial) (fun v D hv=>?_);subst hv;cases q1<;>conv=>whnf)
  | (refine aw.val h2 (fun w hw=>trivial) (fun v D hv=>?_);subst hv;cases q2<;>conv=>whnf))
 all_goals refine⟨_,ax.refl _,?_⟩
 all_goals first | rfl | (congr 1;rw[Bool.eq_iff_iff];simp_all [aD,ao,aC,aB,aA,aE,and_assoc];done)
theorem tg (l:List Gr) (h:Hd) (hh:h.Ok l.length) (hl:l.length≤140737488355328) (task frame need:Int) (hn:1≤need∧need≤3) :
 af Tryz.prog 99 [h.v l.length,.int .i64 task,.int .i64 frame,.int .i64 need] (fun w=>ai w h.a (l.flatMap bM)) (fun v F=>v = .bool (l.any fun x=>aR x.grantee task&&(aR x.frame frame&&jK x.rights need))):=by
 rw[fM l (fun x=>aR x.grantee task&&(aR x.frame frame&&jK x.rights need))]
 have n1:dL need 1=true:=by simp[aD,hn.1]
 have n2:eW need 3=true:=by simp[aC,hn.2]
 refine af.aG ae Tryz.func99 rfl (by decide) (n:=Tryz.f99.ntmps - 4) rfl rfl fun w0 av=>?_
 conv=>whnf
 repeat (refine aa.of ?_;conv=>whnf)
 refine az.loop ae (ι:=Nat) (List.range' 9 40) (fun z=>z≤l.length∧∀ j,j<z→cU l (fun x=>aR x.grantee task&&(aR x.frame frame&&jK x.rights need)) j=true)
  (fun z=>[(9,.v (.int .i64 (z:Int)))]) (fun _=>[]) (fun _=>⟨fun w=>ai w h.a (l.flatMap bM),[]⟩)
  (fun z=>l.length - z) 0 ⟨Nat.zero_le _,fun j h=>by omega⟩ ?_ rfl (ax.of_le ⟨by simp[Value.cells],fun w hw=>hw⟩) fun i hi=>?_
 · conv=>whnf
   repeat (first | exact au.nil | refine au.any ?_ | refine au.cons ?_)
 obtain⟨hi,hall⟩:=hi
 conv=>whnf
 repeat (refine aa.of ?_;conv=>whnf)
 refine bF.split (fun hlt=>?_) (fun hlt=>?_)
 · have hlt':i<l.length:=by
    simp only[ao,decide_eq_true_eq] at hlt
    omega
   have hok:cU l (fun x=>aR x.grantee task&&(aR x.frame frame&&jK x.rights need)) i=(!(aR l[i].grantee task&&(aR l[i].frame frame&&jK l[i].rights need))):=by
    unfold cU
    rw[bn hlt']
   have hnext:cU l (fun x=>aR x.grantee task&&(aR x.frame frame&&jK x.rights need)) i=true→∀ j,j<i+1→cU l (fun x=>aR x.grantee task&&(aR x.frame frame&&jK x.rights need)) j=true:=fun hs j hj=>by
    rcases Nat.lt_or_eq_of_le (Nat.lt_succ_iff.1 hj) with h5 | h5
    · exact hall j h5
    · exact h5 ▸ hs
   have hq1:=iV l[i].rights need
   obtain⟨q1,heq1⟩ : ∃ qq,qq=jK l[i].rights need:=⟨_,rfl⟩
   rw[← heq1] at hq1 hok
   obtain⟨a,ha⟩ : ∃ a,aR l[i].grantee task=a:=⟨_,rfl⟩
   obtain⟨b,hb⟩ : ∃ b,aR l[i].frame frame=b:=⟨_,rfl⟩
   rw[ha,hb] at hok
   conv=>whnf
   repeat (refine aa.of ?_;conv=>whnf)
   repeat' (first
    | (refine aa.of ?_;conv=>whnf)
    | (refine aw.val hq1 (fun w hw=>trivial) (fun v D hv=>?_);subst hv;cases q1<;>conv=>whnf)
    | (refine ar.aj (ak.index ae (t:=35) rfl rfl rfl (by first | omega) (by first | omega) hh.nil fun ad had=>?_);conv=>whnf)
    | (refine ar.aj (ak.aH ae rfl rfl (ad:=ad) (k:=i*4+1) (L:=l.flatMap bM) (v:=.int .i64 l[i].grantee) (.fact fun w hw=>had ▸ hw) ?adr (bY (cf:=bM) (z:=4) (fun _=>rfl) hlt' (by decide)) ?_);(case adr=>intro hs;first | rfl | (rw[Addr.bD hs];rfl));conv=>whnf)
    | (refine ar.aj (ak.aH ae rfl rfl (ad:=ad) (k:=i*4+2) (L:=l.flatMap bM) (v:=.int .i64 l[i].frame) (.fact fun w hw=>had ▸ hw) ?adr (bY (cf:=bM) (z:=4) (fun _=>rfl) hlt' (by decide)) ?_);(case adr=>intro hs;first | rfl | (rw[Addr.bD hs];rfl));conv=>whnf)
    | (refine ar.aj (ak.aH ae rfl rfl (ad:=ad) (k:=i*4+3) (L:=l.flatMap bM) (v:=.int .i64 l[i].rights) (.fact fun w hw=>had ▸ hw) ?adr (bY (cf:=bM) (z:=4) (fun _=>rfl) hlt' (by decide)) ?_);(case adr=>intro hs;first | rfl | (rw[Addr.bD hs];rfl));conv=>whnf)
    | (rw[ha];cases a<;>conv=>whnf)
    | (rw[hb];cases b<;>conv=>whnf)
    | (rw[n1];conv=>whnf)
    | (rw[n2];conv=>whnf))
   all_goals first
    | (refine⟨i+1,⟨⟨hlt',hnext (hok.trans rfl)⟩,by dsimp only;omega⟩,?_,?_,ax.refl _⟩)
    | (
     refine⟨_,ax.refl _,?_⟩
     rw[aJ hlt' (hok.trans rfl)]
     rfl)
   all_goals first
    | (
     conv=>whnf
     refine⟨?_,rfl⟩
     repeat (first | exact au.nil | refine au.any ?_ | refine au.cons ?_ | refine au.eq (by rw[wrap_i64 (by omega)];rfl) ?_)
     done)
    | (
     conv=>whnf
     exact trivial)
 · have hie:i=l.length:=by
    simp only[ao,decide_eq_false_iff_not] at hlt
    omega
   subst hie
   conv=>whnf
   repeat (refine aa.of ?_;conv=>whnf)
   exact⟨_,ax.refl _,by rw[aV hall];rfl⟩
def Eo (l:List Gr) (s:List Bool) (i k:Nat):Bool:=s[k]! && (aR l[k]!.frame l[i]!.frame&&(aR l[k]!.grantee l[i]!.owner&&jK l[k]!.rights l[i]!.rights))
def mR (l:List Gr) (s:List Bool) (i:Nat):Nat→Bool
 | 0=>aR l[i]!.owner 4
 | k+1=>mR l s i k||Eo l s i k
theorem xa {l:List Gr} {s:List Bool} {i:Nat} (hr : ∀ j,j<l.length→1≤l[j]!.rights∧l[j]!.rights≤3) (hi:i<l.length) (hs:s.length=l.length) (hf:s[i]! = false) : ∀ k,k≤l.length→mR l s i k=gO l s i k
 | 0,_=>rfl
 | k+1,hk=>by
  have ih:=xa hr hi hs hf k (by omega)
  unfold mR gO Eo CF
  rw[ih,sB (hr k (by omega)) (hr i hi)]
  by_cases e:k=i
  · subst e
    have:(s.set k (gO l s k k))[k]! = gO l s k k:=by
     rw[bn (by rw[List.length_set];omega)]
     simp
    rw[this,hf]
    generalize gO l s k k=a
    cases a<;>simp
  · have:(s.set i (gO l s i k))[k]! = s[k]!:=by
     rw[bn (by rw[List.length_set];omega),bn (by omega)]
     rw[List.getElem_set_ne (fun h=>e h.symm)]
    rw[this]
def Cz (l:List Gr) (x:List Bool×Bool) (i:Nat):List Bool×Bool:=if mR l x.1 i l.length && !x.1[i]! then (x.1.set i true,true) else x
theorem zV {s:List Bool} {i:Nat} (h:s[i]! = false) (hi:i<s.length):s.set i false=s:=by
 rw[bn hi] at h
 rw[← h]
 simp
theorem A9 {l:List Gr} {x:List Bool×Bool} {i:Nat} (hr : ∀ j,j<l.length→1≤l[j]!.rights∧l[j]!.rights≤3) (hi:i<l.length) (hs:x.1.length=l.length):Cz l x i=uG l x i:=by
 obtain⟨s,u⟩:=x
 dsimp only at hs
 unfold Cz uG
 dsimp only
 cases hf:s[i]!
 · have h:=xa hr hi hs hf l.length (Nat.le_refl _)
   rw[h]
   generalize gO l s i l.length=v at *
   cases v
   · simp[zV hf (by omega)]
   · simp
 · simp
theorem vW (l:List Gr):decide ((dS l).count true=l.length) = !((dS l).any fun y=>false == y):=by
 have hl:=oO l
 rw[← hl,Bool.eq_iff_iff,decide_eq_true_eq,List.count_eq_length]
 simp
theorem rN (l:List Gr) (h:Hd) (hh:h.Ok l.length) (hl:l.length≤1000000) (hr : ∀ j,j<l.length→1≤l[j]!.rights∧l[j]!.rights≤3) :
 af Tryz.prog 161 [h.v l.length] (fun w=>ai w h.a (l.flatMap bM)) (fun v F=>∃ k:Hd,v=k.v ((dS l).count true)):=by
 refine af.aG ae Tryz.func161 rfl (by decide) (n:=Tryz.f161.ntmps - 1) rfl rfl fun w0 av=>?_
 conv=>whnf
 repeat (refine aa.of ?_;conv=>whnf)
 refine ar.tz ae (t:=273) rfl rfl rfl l.length rfl rfl (by decide) rfl hl (by simp;omega) fun bb=>?_
 have hrow:(List.replicate l.length ([.bool false]:List Value)).flatten=(List.replicate l.length false).map Value.bool:=by
  induction l.length with
  | zero=>rfl
  | succ n ih=>rw[List.replicate_succ,List.flatten_cons,ih];rfl
 conv=>whnf
 repeat (refine aa.of ?_;conv=>whnf)
 refine az.loop ae (ι:=List Bool×Bool×Nat) ([4,5,6,7]++List.range' 13 76) (fun x=>x.1.length=l.length∧(if x.2.1 then x.1.count false<x.2.2∧pT l x.2.2 x.1=dS l else x.1=dS l))
  (fun x=>[(4,.v (.bool x.2.1))]) (fun _=>[]) (fun x=>⟨fun w=>ai w h.a (l.flatMap bM),[(bb,Row.c (x.1.map Value.bool))]⟩)
  (fun x=>if x.2.1 then x.1.count false+1 else 0) (List.replicate l.length false,true,l.length+1) ⟨by simp,by simp[dS]⟩ ?_ rfl (ax.of_le ⟨by rw[← hrow];simp,fun w hw=>hw⟩) fun x hx=>?_
 · conv=>whnf
   repeat (first | exact au.nil | refine au.any ?_ | refine au.cons ?_)
 obtain⟨s,ag,f⟩:=x
 obtain⟨hsl,hx⟩:=hx
 dsimp only at hsl hx ⊢
 conv=>whnf
 repeat (refine aa.of ?_;conv=>whnf)
 cases ag
 · conv=>whnf
   repeat (refine aa.of ?_;conv=>whnf)
   have hx:s=dS l:=hx
   subst hx
   have htk : ∀ i (hi:i<(dS l).length),((dS l).take (i+1)).count true=((dS l).take i).count true+(if (dS l)[i] then 1 else 0):=fun i hi=>by
    rw[List.take_succ_eq_append_getElem hi,List.count_append,List.count_singleton]
    cases (dS l)[i]<;>rfl
   have hce:((dS l).take l.length).count true=(dS l).count true:=by rw[← hsl,List.take_length]
   generalize dS l=S at *
   refine az.loop ae (ι:=Nat×Nat×Option Addr×Nat×List Value×List Value) ([8,9]++List.range' 89 17)
    (fun x=>x.1≤l.length∧x.2.1≤x.1∧x.2.1=(S.take x.1).count true∧cZ 4 x.2.1 x.2.2.1 x.2.2.2.1 x.2.2.2.2.1 x.2.2.2.2.2)
    (fun x=>[(8,.v (.slice x.2.2.1 x.2.1 x.2.2.2.1)),(9,.v (.int .i64 (x.1:Int)))]) (fun _=>[]) (fun x=>⟨fun w=>ai w h.a (l.flatMap bM),[(bb,Row.c (S.map Value.bool))]++bo x.2.2.1 x.2.2.2.2.1 ++ []⟩)
    (fun x=>l.length - x.1) (0,0,none,0,[],[]) ⟨Nat.zero_le _,Nat.le_refl _,by simp,cZ.nil 4⟩ ?_ rfl (ax.of_le ⟨by simp[bo],fun w hw=>hw⟩) fun x hx=>?_
   · conv=>whnf
     repeat (first | exact au.nil | refine au.any ?_ | refine au.cons ?_)
   obtain⟨i,n,a,c,C,L⟩:=x
   obtain⟨hi,hn,hcn,hO⟩:=hx
   dsimp only at hi hn hcn hO ⊢
   conv=>whnf
   repeat (refine aa.of ?_;conv=>whnf)
   refine bF.split (fun hlt=>?_) (fun hlt=>?_)
   · have hlt':i<l.length:=by
      simp only[ao,decide_eq_true_eq] at hlt
      omega
     have hSi:i<S.length:=by omega
     have hkt:=htk i hSi
     obtain⟨q,hq⟩ : ∃ q,S[i]=q:=⟨_,rfl⟩
     rw[hq] at hkt
     conv=>whnf
     repeat (refine aa.of ?_;conv=>whnf)
     refine ar.aj (ak.index ae (t:=273) rfl rfl rfl (by omega) (by omega) (fun h=>by cases h) fun ad2 had2=>?_)
     obtain rfl:(⟨bb,0,none⟩:Addr)=ad2:=Option.some.inj had2
     conv=>whnf
     repeat (refine aa.of ?_;conv=>whnf)
     refine ar.aj (ak.aH ae (t:=4) rfl rfl (ad:=⟨bb,0,none⟩) (k:=i) (L:=S.map Value.bool) (v:=.bool q) (aK.row (by simp)) (fun hs=>by rw[Nat.mul_one];rfl) (by rw[List.getElem?_map,List.getElem?_eq_getElem hSi,hq];rfl) ?_)
     cases q
     · conv=>whnf
       repeat (refine aa.of ?_;conv=>whnf)
       refine⟨(i+1,n,a,c,C,L),⟨⟨hlt',by dsimp only;omega,by dsimp only;rw[hkt,← hcn];rfl,hO⟩,by dsimp only;omega⟩,?_,?_,ax.refl _⟩
       · conv=>whnf
         refine⟨?_,rfl⟩
         repeat (first | exact au.nil | refine au.any ?_ | refine au.cons ?_ | refine au.eq (by rw[wrap_i64 (by omega)];rfl) ?_)
       · conv=>whnf
         exact trivial
     · conv=>whnf
       repeat (refine aa.of ?_;conv=>whnf)
       refine ar.aj (ak.index ae (t:=35) rfl rfl rfl (by omega) (by omega) hh.nil fun ad had=>?_)
       conv=>whnf
       repeat (refine aa.of ?_;conv=>whnf)
       refine ar.aj (ak.aQ ae (t:=164) rfl rfl (ad:=ad) (k:=i*4) (L:=l.flatMap bM) (m:=bM l[i]) (.fact fun w hw=>had ▸ hw) (by simp) (a8 (cf:=bM) (z:=4) (fun _=>rfl) hlt') rfl ?_)
       conv=>whnf
       repeat (refine aa.of ?_;conv=>whnf)
       refine ar.build ae rfl rfl rfl [.agg ⟨bM l[i]⟩] rfl rfl (by simp[Value.cells,bM]) (by decide) fun b5=>?_
       conv=>whnf
       repeat (refine aa.of ?_;conv=>whnf)
       refine ar.bZ (F':=⟨fun w=>ai w h.a (l.flatMap bM),[(bb,Row.c (S.map Value.bool))]++bo a C ++ [(b5,Row.c (bM l[i]))]⟩) (ax.of_le ⟨by simp[Value.cells],fun w hw=>hw⟩) ?_
       refine ar.append ae rfl rfl rfl rfl rfl rfl (M:=bM l[i]) hO (aK.row (by simp)) rfl (List.all_eq_true.1 (by rfl)) (by omega) (by simp;omega) fun a' c' C' hO'=>?_
       conv=>whnf
       repeat (refine aa.of ?_;conv=>whnf)
       refine⟨(i+1,n+1,a',c',C',L++bM l[i]),⟨⟨hlt',by dsimp only;omega,by dsimp only;rw[hkt,← hcn];rfl,hO'⟩,by dsimp only;omega⟩,?_,?_,ax.of_le ⟨by simp,fun w hw=>hw⟩⟩
       · conv=>whnf
         refine⟨?_,rfl⟩
         repeat (first | exact au.nil | refine au.any ?_ | refine au.cons ?_ | refine au.eq (by rw[wrap_i64 (by omega)];rfl) ?_)
       · conv=>whnf
         exact trivial
   · have hie:i=l.length:=by
      simp only[ao,decide_eq_false_iff_not] at hlt
      omega
     rw[hie,hce] at hcn
     rw[hcn]
     conv=>whnf
     repeat (refine aa.of ?_;conv=>whnf)
     exact⟨⟨fun _=>True,[]⟩,ax.of_le ⟨List.nil_sublist _,fun w hw=>trivial⟩,⟨a,c⟩,rfl⟩
 obtain⟨hc,hG⟩:s.count false<f∧pT l f s=dS l:=by simpa using hx
 conv=>whnf
 repeat (refine aa.of ?_;conv=>whnf)
 refine az.loop ae (ι:=Nat×List Bool×Bool) ([4,5,6,7]++List.range' 14 75) (fun x=>x.1≤l.length∧x.2=fe l s x.1)
  (fun x=>[(4,.v (.bool x.2.2)),(5,.v (.int .i64 (x.1:Int)))]) (fun _=>[]) (fun x=>⟨fun w=>ai w h.a (l.flatMap bM),[(bb,Row.c (x.2.1.map Value.bool))]⟩)
  (fun x=>l.length - x.1) (0,s,false) ⟨Nat.zero_le _,rfl⟩ ?_ rfl (ax.refl _) fun x hx=>?_
 · conv=>whnf
   repeat (first | exact au.nil | refine au.any ?_ | refine au.cons ?_)
 obtain⟨i,S,u⟩:=x
 obtain⟨hi,hS⟩:=hx
 dsimp only at hi hS ⊢
 conv=>whnf
 repeat (refine aa.of ?_;conv=>whnf)
 refine bF.split (fun hlt=>?_) (fun hlt=>?_)
 · have hlt':i<l.length:=by
    simp only[ao,decide_eq_true_eq] at hlt
    omega
   have hSl:=eN l s i
   have hnx:fe l s (i+1)=uG l (fe l s i) i:=rfl
   rw[← hS] at hSl hnx
   dsimp only at hSl
   have hSi:i<S.length:=by omega
   rw[← A9 hr hlt' (by dsimp only;omega)] at hnx
   unfold Cz at hnx
   dsimp only at hnx
   rw[bn hSi] at hnx
   have hw0:mR l S i 0=aR l[i].owner 4:=by
    unfold mR
    rw[bn hlt']
   conv=>whnf
   repeat (refine aa.of ?_;conv=>whnf)
   refine ar.aj (ak.index ae (t:=35) rfl rfl rfl (by omega) (by omega) hh.nil fun ad had=>?_)
   conv=>whnf
   repeat (refine aa.of ?_;conv=>whnf)
   refine ar.aj (ak.aH ae rfl rfl (ad:=ad) (k:=i*4+0) (L:=l.flatMap bM) (v:=.int .i64 l[i].owner) (.fact fun w hw=>had ▸ hw) ?adr (bY (cf:=bM) (z:=4) (fun _=>rfl) hlt' (by decide)) ?_)
   (case adr=>intro hs;first | rfl)
   conv=>whnf
   repeat (refine aa.of ?_;conv=>whnf)
   rw[← hw0]
   refine az.loop ae (ι:=Nat) ([6,7]++List.range' 26 52) (fun x=>x≤l.length)
    (fun x=>[(6,.v (.bool (mR l S i x))),(7,.v (.int .i64 (x:Int)))]) (fun _=>[]) (fun x=>⟨fun w=>ai w h.a (l.flatMap bM),[(bb,Row.c (S.map Value.bool))]⟩)
    (fun x=>l.length - x) 0 (Nat.zero_le _) ?_ rfl (ax.refl _) fun k hk=>?_
   · conv=>whnf
     repeat (first | exact au.nil | refine au.any ?_ | refine au.cons ?_)
   conv=>whnf
   repeat (refine aa.of ?_;conv=>whnf)
   refine bF.split (fun hkt=>?_) (fun hkt=>?_)
   · have hkt':k<l.length:=by
      simp only[ao,decide_eq_true_eq] at hkt
      omega
     have hSk:k<S.length:=by omega
     have hvn:mR l S i (k+1)=(mR l S i k||(S[k]&&(aR l[k].frame l[i].frame&&(aR l[k].grantee l[i].owner&&jK l[k].rights l[i].rights)))):=by
      conv=>lhs;unfold mR
      unfold Eo
      rw[bn hkt',bn hlt',bn hSk]
     have hgi:=iV l[k].rights l[i].rights
     have hck:(S.map Value.bool)[k]? = some (.bool S[k]):=by rw[List.getElem?_map,List.getElem?_eq_getElem hSk];rfl
     obtain⟨v,hv⟩ : ∃ v,mR l S i k=v:=⟨_,rfl⟩
     obtain⟨sk,hsk⟩ : ∃ v,S[k]=v:=⟨_,rfl⟩
     obtain⟨t1,ht1⟩ : ∃ t,aR l[k].frame l[i].frame=t:=⟨_,rfl⟩
     obtain⟨t2,ht2⟩ : ∃ t,aR l[k].grantee l[i].owner=t:=⟨_,rfl⟩
     obtain⟨q5,hq5⟩ : ∃ t,jK l[k].rights l[i].rights=t:=⟨_,rfl⟩
     rw[hv,hsk,ht1,ht2,hq5] at hvn
     rw[hsk] at hck
     rw[hq5] at hgi
     rw[hv]
     clear hv hsk hq5
     conv=>whnf
     repeat (refine aa.of ?_;conv=>whnf)
     refine az.draw ae mixed rfl rfl ?_
     conv=>whnf
     repeat' (first
      | (refine cj.same rfl ?_;conv=>whnf)
      | (refine ak.index ae (t:=273) rfl rfl rfl (by omega) (by omega) (fun h=>by cases h) fun ad5 had5=>?_;obtain rfl:(⟨bb,0,none⟩:Addr)=ad5:=Option.some.inj had5;conv=>whnf)
      | (refine ak.index ae (t:=35) rfl rfl rfl (by omega) (by omega) hh.nil fun ad had=>?_;conv=>whnf)
      | (refine ak.aH ae (t:=4) rfl rfl (ad:=⟨bb,0,none⟩) (k:=k) (L:=S.map Value.bool) (v:=.bool sk) (aK.row (by simp)) (fun hs=>by rw[Nat.mul_one];rfl) hck ?_;cases sk<;>conv=>whnf)
      | (refine ak.aH ae rfl rfl (ad:=ad) (k:=k*4+2) (L:=l.flatMap bM) (v:=.int .i64 l[k].frame) (.fact fun w hw=>had ▸ hw) ?adr (bY (cf:=bM) (z:=4) (fun _=>rfl) hkt' (by decide)) ?_;(case adr=>intro hs;first | rfl | (rw[Addr.bD hs];rfl));conv=>whnf)
      | (refine ak.aH ae rfl rfl (ad:=ad) (k:=i*4+2) (L:=l.flatMap bM) (v:=.int .i64 l[i].frame) (.fact fun w hw=>had ▸ hw) ?adr (bY (cf:=bM) (z:=4) (fun _=>rfl) hlt' (by decide)) ?_;(case adr=>intro hs;first | rfl | (rw[Addr.bD hs];rfl));conv=>whnf)
      | (refine ak.aH ae rfl rfl (ad:=ad) (k:=k*4+1) (L:=l.flatMap bM) (v:=.int .i64 l[k].grantee) (.fact fun w hw=>had ▸ hw) ?adr (bY (cf:=bM) (z:=4) (fun _=>rfl) hkt' (by decide)) ?_;(case adr=>intro hs;first | rfl | (rw[Addr.bD hs];rfl));conv=>whnf)
      | (refine ak.aH ae rfl rfl (ad:=ad) (k:=i*4+0) (L:=l.flatMap bM) (v:=.int .i64 l[i].owner) (.fact fun w hw=>had ▸ hw) ?adr (bY (cf:=bM) (z:=4) (fun _=>rfl) hlt' (by decide)) ?_;(case adr=>intro hs;first | rfl);conv=>whnf)
      | (refine ak.aH ae rfl rfl (ad:=ad) (k:=k*4+3) (L:=l.flatMap bM) (v:=.int .i64 l[k].rights) (.fact fun w hw=>had ▸ hw) ?adr (bY (cf:=bM) (z:=4) (fun _=>rfl) hkt' (by decide)) ?_;(case adr=>intro hs;first | rfl | (rw[Addr.bD hs];rfl));conv=>whnf)
      | (refine ak.aH ae rfl rfl (ad:=ad) (k:=i*4+3) (L:=l.flatMap bM) (v:=.int .i64 l[i].rights) (.fact fun w hw=>had ▸ hw) ?adr (bY (cf:=bM) (z:=4) (fun _=>rfl) hlt' (by decide)) ?_;(case adr=>intro hs;first | rfl | (rw[Addr.bD hs];rfl));conv=>whnf)
      | (rw[ht1];cases t1<;>conv=>whnf)
      | (rw[ht2];cases t2<;>conv=>whnf)
      | (refine aw.val hgi (fun w hw=>trivial) (fun v D hv=>?_);subst hv;conv=>whnf)
      | (cases v<;>conv=>whnf))
     all_goals
      refine⟨k+1,⟨hkt',by dsimp only;omega⟩,?_,?_,ax.refl _⟩
      · conv=>whnf
        refine⟨?_,rfl⟩
        repeat (first | exact au.nil | refine au.any ?_ | refine au.cons ?_ | refine au.eq (by rw[wrap_i64 (by omega)];rfl) ?_ | refine au.eq (by rw[hvn];rfl) ?_)
      · conv=>whnf
        exact trivial
   · have hke:k=l.length:=by
      simp only[ao,decide_eq_false_iff_not] at hkt
      omega
     subst hke
     obtain⟨v,hv⟩ : ∃ v,mR l S i l.length=v:=⟨_,rfl⟩
     obtain⟨sk,hsk⟩ : ∃ v,S[i]=v:=⟨_,rfl⟩
     have hci:(S.map Value.bool)[i]? = some (.bool S[i]):=by rw[List.getElem?_map,List.getElem?_eq_getElem hSi];rfl
     rw[hv,hsk] at hnx
     rw[hsk] at hci
     rw[hv]
     have hset:=lq S i true hSi
     clear hv hsk
     repeat' (first
      | (refine ar.aj (ak.index ae (t:=273) rfl rfl rfl (by omega) (by omega) (fun h=>by cases h) fun ad5 had5=>?_);obtain rfl:(⟨bb,0,none⟩:Addr)=ad5:=Option.some.inj had5;conv=>whnf)
      | (refine ar.aj (ak.aH ae (t:=4) rfl rfl (ad:=⟨bb,0,none⟩) (k:=i) (L:=S.map Value.bool) (v:=.bool sk) (aK.row (by simp)) (fun hs=>by rw[Nat.mul_one];rfl) hci ?_);cases sk<;>conv=>whnf)
      | (cases v<;>conv=>whnf))
     · refine⟨(i+1,S,u),⟨⟨hlt',hnx.symm⟩,by dsimp only;omega⟩,?_,?_,ax.refl _⟩
       · conv=>whnf
         refine⟨?_,rfl⟩
         repeat (first | exact au.nil | refine au.any ?_ | refine au.cons ?_ | refine au.eq (by rw[wrap_i64 (by omega)];rfl) ?_)
       · conv=>whnf
         exact trivial
     · refine aP.aX ae (t:=4) rfl (r1:=[]) (r2:=[]) (b:=bb) (k:=i) (C:=S.map Value.bool) (v:=.bool true) (X:=(S.set i true).map Value.bool) (by show(Addr.add ⟨bb,0,none⟩ (i*1))=_;rw[Addr.bE,Nat.mul_one,Nat.zero_add]) rfl (List.all_eq_true.1 (by rfl)) (by simp;omega) hset ?_
       conv=>whnf
       repeat (refine aa.of ?_;conv=>whnf)
       refine⟨(i+1,S.set i true,true),⟨⟨hlt',hnx.symm⟩,by dsimp only;omega⟩,?_,?_,ax.refl _⟩
       · conv=>whnf
         refine⟨?_,rfl⟩
         repeat (first | exact au.nil | refine au.any ?_ | refine au.cons ?_ | refine au.eq (by rw[wrap_i64 (by omega)];rfl) ?_)
       · conv=>whnf
         exact trivial
     · refine⟨(i+1,S,u),⟨⟨hlt',hnx.symm⟩,by dsimp only;omega⟩,?_,?_,ax.refl _⟩
       · conv=>whnf
         refine⟨?_,rfl⟩
         repeat (first | exact au.nil | refine au.any ?_ | refine au.cons ?_ | refine au.eq (by rw[wrap_i64 (by omega)];rfl) ?_)
       · conv=>whnf
         exact trivial
 · have hie:i=l.length:=by
    simp only[ao,decide_eq_false_iff_not] at hlt
    omega
   subst hie
   have hcn:=j8 l s hsl l.length (Nat.le_refl _)
   have hln:=eN l s l.length
   have hGf : ∀ g,f=g+1→(if (fe l s l.length).2 then pT l g (fe l s l.length).1 else (fe l s l.length).1)=dS l:=fun g hg=>by
    rw[← hG,hg]
    rfl
   rw[← hS] at hcn hln hGf
   dsimp only at hcn hln hGf ⊢
   obtain⟨g,rfl⟩ : ∃ g,f=g+1:=⟨f - 1,by omega⟩
   have hGf:=hGf g rfl
   conv=>whnf
   repeat (refine aa.of ?_;conv=>whnf)
   refine⟨(S,u,g),⟨⟨by rw[hln];exact hsl,?_⟩,?_⟩,?_,?_,ax.refl _⟩
   · cases u
     · simpa using hGf
     · simp at hcn hGf ⊢
       exact⟨by omega,hGf⟩
   · cases u<;>simp at hcn ⊢
     omega
   · conv=>whnf
     refine⟨?_,rfl⟩
     repeat (first | exact au.nil | refine au.any ?_ | refine au.cons ?_)
   · conv=>whnf
     exact trivial
theorem pW (l:List Gr) (h:Hd) (hh:h.Ok l.length) (hl:l.length≤1000000) :
 af Tryz.prog 91 [h.v l.length] (fun w=>ai w h.a (l.flatMap bM)) (fun v F=>v = .bool (allI l.length (i_ l)&&(decide (l.length≤200) && !((dS l).any fun y=>false == y)))):=by
 refine af.aG ae Tryz.func91 rfl (by decide) (n:=Tryz.f91.ntmps - 1) rfl rfl fun w0 av=>?_
 conv=>whnf
 repeat (refine aa.of ?_;conv=>whnf)
 refine az.loop ae (ι:=Nat) ([3]++List.range' 4 29) (fun x=>x≤l.length∧∀ j,j<x→i_ l j=true)
  (fun x=>[(3,.v (.int .i64 (x:Int)))]) (fun _=>[]) (fun _=>⟨fun w=>ai w h.a (l.flatMap bM),[]⟩)
  (fun x=>l.length - x) 0 ⟨Nat.zero_le _,fun j h=>by omega⟩ ?_ rfl (ax.of_le ⟨by simp[Value.cells],fun w hw=>hw⟩) fun i hi=>?_
 · conv=>whnf
   repeat (first | exact au.nil | refine au.any ?_ | refine au.cons ?_)
 obtain⟨hi,hall⟩:=hi
 conv=>whnf
 repeat (refine aa.of ?_;conv=>whnf)
 refine bF.split (fun hlt=>?_) (fun hlt=>?_)
 · have hlt':i<l.length:=by
    simp only[ao,decide_eq_true_eq] at hlt
    omega
   have hok:i_ l i=(xp l[i]&&decide (0<i→dN l[i - 1]!.frame l[i].frame l[i - 1]!.grantee l[i].grantee<0)):=by
    unfold i_
    rw[bn hlt']
   have hnext:i_ l i=true→∀ j,j<i+1→i_ l j=true:=fun hs j hj=>by
    rcases Nat.lt_or_eq_of_le (Nat.lt_succ_iff.1 hj) with h5 | h5
    · exact hall j h5
    · exact h5 ▸ hs
   have hq1:=oF l[i]
   obtain⟨q1,heq1⟩ : ∃ q,xp l[i]=q:=⟨_,rfl⟩
   rw[heq1] at hq1 hok
   conv=>whnf
   repeat (refine aa.of ?_;conv=>whnf)
   refine az.draw ae mixed rfl rfl ?_
   conv=>whnf
   rcases Nat.eq_zero_or_pos i with h0 | h0
   · have hg:gY (i:Int) 0=false:=by simp[aB];omega
     rw[show decide (0<i→dN l[i - 1]!.frame l[i].frame l[i - 1]!.grantee l[i].grantee<0)=true from decide_eq_true fun h=>by omega] at hok
     repeat' (first
      | (rw[hg];conv=>whnf)
      | (refine ak.index ae (t:=35) rfl rfl rfl (by first | omega) (by first | omega) hh.nil fun ad had=>?_;conv=>whnf)
      | (refine ak.aQ ae rfl rfl (ad:=ad) (k:=i*4) (L:=l.flatMap bM) (m:=bM l[i]) (.fact fun w hw=>had ▸ hw) ?adr (a8 (cf:=bM) (z:=4) (fun _=>rfl) hlt') rfl ?_;(case adr=>first | rfl);conv=>whnf)
      | (refine aw.val hq1 (fun w hw=>trivial) (fun v D hv=>?_);subst hv;cases q1<;>conv=>whnf))
     · exact⟨_,ax.refl _,by rw[aJ hlt' (hok.trans rfl)];rfl⟩
     · refine⟨i+1,⟨⟨hlt',hnext (hok.trans rfl)⟩,by dsimp only;omega⟩,?_,?_,ax.refl _⟩
       · conv=>whnf
         refine⟨?_,rfl⟩
         repeat (first | exact au.nil | refine au.any ?_ | refine au.cons ?_ | refine au.eq (by rw[wrap_i64 (by omega)];rfl) ?_)
       · conv=>whnf
         exact trivial
   · have hg:gY (i:Int) 0=true:=by simp[aB];omega
     have hj:i - 1<l.length:=by omega
     have hw1:IntKind.i64.wrap ((i:Int) - 1)=((i - 1:Nat):Int):=by
      rw[wrap_i64 (by omega)]
      omega
     have hq2:=pk l[i - 1] l[i]
     obtain⟨q2,heq2⟩ : ∃ q,decide (dN l[i - 1].frame l[i].frame l[i - 1].grantee l[i].grantee<0)=q:=⟨_,rfl⟩
     rw[heq2] at hq2
     rw[show decide (0<i→dN l[i - 1]!.frame l[i].frame l[i - 1]!.grantee l[i].grantee<0)=q2 from by rw[← heq2,decide_eq_decide,bn hj];exact⟨fun h=>h h0,fun h _=>h⟩] at hok
     repeat' (first
      | (rw[hg];conv=>whnf)
      | (refine ak.index ae (t:=35) rfl rfl rfl (by first | omega) (by first | omega) hh.nil fun ad had=>?_;conv=>whnf)
      | (refine ak.aQ ae rfl rfl (ad:=ad) (k:=i*4) (L:=l.flatMap bM) (m:=bM l[i]) (.fact fun w hw=>had ▸ hw) ?adr (a8 (cf:=bM) (z:=4) (fun _=>rfl) hlt') rfl ?_;(case adr=>first | rfl | (simp;done));conv=>whnf)
      | (refine ak.aQ ae rfl rfl (ad:=ad) (k:=(i - 1)*4) (L:=l.flatMap bM) (m:=bM l[i - 1]) (.fact fun w hw=>had ▸ hw) ?adr (a8 (cf:=bM) (z:=4) (fun _=>rfl) hj) rfl ?_;(case adr=>first | rfl | (rw[hw1];rfl));conv=>whnf)
      | (refine aw.val hq1 (fun w hw=>trivial) (fun v D hv=>?_);subst hv;cases q1<;>conv=>whnf)
      | (refine aw.val hq2 (fun w hw=>trivial) (fun v D hv=>?_);subst hv;cases q2<;>conv=>whnf))
     all_goals first
      | exact⟨_,ax.refl _,by rw[aJ hlt' (hok.trans rfl)];rfl⟩
      | (
       refine⟨i+1,⟨⟨hlt',hnext (hok.trans rfl)⟩,by dsimp only;omega⟩,?_,?_,ax.refl _⟩;(conv=>whnf);refine⟨?_,rfl⟩;repeat (first | exact au.nil | refine au.any ?_ | refine au.cons ?_ | refine au.eq (by rw[wrap_i64 (by omega)];rfl) ?_)
       (conv=>whnf);exact trivial)
 · have hie:i=l.length:=by
    simp only[ao,decide_eq_false_iff_not] at hlt
    omega
   subst hie
   have hr : ∀ j,j<l.length→1≤l[j]!.rights∧l[j]!.rights≤3:=fun j hj=>by
    have:=hall j hj
    unfold i_ xp at this
    simp only[Bool.and_eq_true,decide_eq_true_eq] at this
    obtain⟨h1,-⟩:=this
    omega
   have hsu:=rN l h hh hl hr
   rw[aV hall,Bool.true_and,← vW]
   obtain⟨c,hc⟩ : ∃ c,(dS l).count true=c:=⟨_,rfl⟩
   have hcl:c≤l.length:=by
    rw[← hc,← oO l]
    exact List.count_le_length
   rw[hc] at hsu ⊢
   conv=>whnf
   repeat (refine aa.of ?_;conv=>whnf)
   by_cases hn:l.length≤200
   · rw[show eW ((l.length:Nat):Int) 200=true by simp[aC];omega,decide_eq_true hn,Bool.true_and]
     conv=>whnf
     repeat (refine aa.of ?_;conv=>whnf)
     refine aw.pure hsu (fun w hw=>hw) (fun v D hv=>?_)
     obtain⟨k,rfl⟩:=hv
     conv=>whnf
     repeat (refine aa.of ?_;conv=>whnf)
     exact⟨_,ax.refl _,by congr 1;rw[aA,Bool.eq_iff_iff];simp;omega⟩
   · rw[show eW ((l.length:Nat):Int) 200=false by simp[aC];omega,decide_eq_false hn]
     conv=>whnf
     repeat (refine aa.of ?_;conv=>whnf)
     exact⟨_,ax.refl _,rfl⟩
theorem eG (n:Int):af Tryz.prog 94 [.int .i64 n] (fun _=>True) (fun v F=>v = .bool (decide (1≤n∧n≤10))):=by
 refine af.aG ae Tryz.func94 rfl (by decide) (n:=Tryz.f94.ntmps - 1) rfl rfl fun w0 av=>?_
 conv=>whnf
 repeat (refine aa.of ?_;conv=>whnf)
 repeat' (first
  | (refine cj.mk ?_ ?_;(focus (first | exact ax.refl _ | exact ax.left _ _ | exact ax.of_le ⟨List.sublist_append_left _ _,fun w h=>h⟩ | exact ax.of_le ⟨List.Sublist.refl _,fun w h=>h.1⟩));conv=>whnf))
 all_goals refine⟨_,ax.refl _,?_⟩
 all_goals first | rfl | (congr 1;rw[Bool.eq_iff_iff];simp_all [aD,ao,aC,aB,aA,aE,and_assoc];done)
theorem dX (n:Int):af Tryz.prog 95 [.int .i64 n] (fun _=>True) (fun v F=>v = .bool (decide (16≤n∧n<32))):=by
 refine af.aG ae Tryz.func95 rfl (by decide) (n:=Tryz.f95.ntmps - 1) rfl rfl fun w0 av=>?_
 conv=>whnf
 repeat (refine aa.of ?_;conv=>whnf)
 repeat' (first
  | (refine cj.mk ?_ ?_;(focus (first | exact ax.refl _ | exact ax.left _ _ | exact ax.of_le ⟨List.sublist_append_left _ _,fun w h=>h⟩ | exact ax.of_le ⟨List.Sublist.refl _,fun w h=>h.1⟩));conv=>whnf))
 all_goals refine⟨_,ax.refl _,?_⟩
 all_goals first | rfl | (congr 1;rw[Bool.eq_iff_iff];simp_all [aD,ao,aC,aB,aA,aE,and_assoc];done)
def kR (s:bW) (i:Nat):Bool:=decide (16≤i)&&fw (s.T i).kind 0
theorem fS (s:bW) (E:List Value) (hR:dJ s E) (hl:E.length=380) (i:Nat) (hi:i<32):af Tryz.prog 97 [.agg ⟨E⟩,.int .i64 (i:Int)] (fun _=>True) (fun v F=>v = .bool (kR s i)):=by
 have h1:=dX (i:Int)
 have e:decide (16≤(i:Int)∧(i:Int)<32)=decide (16≤i):=by
  rw[decide_eq_decide]
  omega
 rw[e] at h1
 unfold kR
 have hg:=cellOf (hR.eT i hi) (j:=0) (by decide) rfl
 generalize decide (16≤i)=q at *
 have hEl:E.length=380:=hl
 refine af.aG ae Tryz.func97 rfl (by decide) (n:=Tryz.f97.ntmps - 2) rfl rfl fun w0 av=>?_
 conv=>whnf
 repeat (refine aa.of ?_;conv=>whnf)
 refine ar.bQ fun br=>?_
 conv=>whnf
 repeat (refine aa.of ?_;conv=>whnf)
 repeat' (first
  | (refine aw.val h1 (fun w hw=>trivial) (fun v D hv=>?_);subst hv;cases q<;>conv=>whnf)
  | (refine ar.aj (ak.bj ae rfl rfl rfl i rfl (by omega) rfl ?_);conv=>whnf)
  | (refine ar.aj (ak.aH ae rfl rfl (ad:=⟨br,0,none⟩) (k:=i*8+0) (L:=E) (v:=.int .i64 (s.T i).kind) (aK.row (by simp[Value.cells])) (fun _=>Addr.bD rfl _ _) hg ?_);conv=>whnf))
 all_goals exact⟨_,ax.refl _,rfl⟩
theorem n9 (s:bW) (E:List Value) (hR:dJ s E) (hl:E.length=380) (hs : ∀ i,i<32→(s.sp i).l.length≤140737488355328):af Tryz.prog 52 [.agg ⟨E⟩] (fun _=>True) (fun v F=>v = .bool (allI 32 (gF fun i=>(s.sp i).l.length))):=by
 have e:allI 32 (gF fun i=>(s.sp i).l.length)=allI 16 (gF fun i=>(s.sp i).l.length):=by
  rw[Bool.eq_iff_iff,dB,dB]
  refine⟨fun h j hj=>h j (by omega),fun h j hj=>?_⟩
  by_cases h6:j<16
  · exact h j h6
  · unfold gF
    rw[decide_eq_true (by omega)]
 rw[e]
 have hEl:E.length=380:=hl
 refine af.aG ae Tryz.func52 rfl (by decide) (n:=Tryz.f52.ntmps - 1) rfl rfl fun w0 av=>?_
 conv=>whnf
 repeat (refine aa.of ?_;conv=>whnf)
 refine ar.bQ fun br=>?_
 conv=>whnf
 repeat (refine aa.of ?_;conv=>whnf)
 refine az.loop ae (ι:=Nat) (List.range' 3 11) (fun z=>z≤16∧∀ j,j<z→gF (fun i=>(s.sp i).l.length) j=true)
  (fun z=>[(3,.v (.int .i64 (z:Int)))]) (fun _=>[]) (fun _=>⟨fun _=>True,[(br,Row.c E)]⟩)
  (fun z=>16 - z) 0 ⟨Nat.zero_le _,fun j h=>by omega⟩ ?_ rfl (ax.of_le ⟨by simp[Value.cells],fun w hw=>hw⟩) fun i hi=>?_
 · conv=>whnf
   repeat (first | exact au.nil | refine au.any ?_ | refine au.cons ?_)
 obtain⟨hi,hall⟩:=hi
 conv=>whnf
 repeat (refine aa.of ?_;conv=>whnf)
 refine bF.split (fun hlt=>?_) (fun hlt=>?_)
 · have hlt':i<16:=by
    simp only[ao,decide_eq_true_eq] at hlt
    omega
   have hnext:gF (fun i=>(s.sp i).l.length) i=true→∀ j,j<i+1→gF (fun i=>(s.sp i).l.length) j=true:=fun hs j hj=>by
    rcases Nat.lt_or_eq_of_le (Nat.lt_succ_iff.1 hj) with h5 | h5
    · exact hall j h5
    · exact h5 ▸ hs
   have hok:gF (fun i=>(s.sp i).l.length) i=decide (16≤i∨(s.sp i).l.length=0):=rfl
   have hle:=hs i (by omega)
   conv=>whnf
   repeat (refine aa.of ?_;conv=>whnf)
   refine ar.aj (ak.bj ae rfl rfl rfl i rfl (by omega) rfl ?_)
   conv=>whnf
   repeat (refine aa.of ?_;conv=>whnf)
   refine ar.aj (ak.aH ae rfl rfl (ad:=⟨br,0,none⟩) (k:=275+i) (L:=E) (v:=(s.sp i).h.v (s.sp i).l.length) (aK.row (by simp[Value.cells])) (fun _=>by rw[jR,Nat.mul_one];simp[Addr.add]) (hR.eS i (by omega)) ?_)
   conv=>whnf
   repeat (refine aa.of ?_;conv=>whnf)
   refine bF.split (fun hq=>?_) (fun hq=>?_)
   · conv=>whnf
     repeat (refine aa.of ?_;conv=>whnf)
     refine⟨_,ax.refl _,?_⟩
     rw[aJ hlt']
     rw[hok,decide_eq_false_iff_not]
     simp only[aB,decide_eq_true_eq] at hq
     omega
   · conv=>whnf
     repeat (refine aa.of ?_;conv=>whnf)
     refine⟨i+1,⟨⟨hlt',hnext (by rw[hok,decide_eq_true_eq];simp only[aB,decide_eq_false_iff_not] at hq;omega)⟩,by dsimp only;omega⟩,?_,?_,ax.refl _⟩
     · conv=>whnf
       refine⟨?_,rfl⟩
       repeat (first | exact au.nil | refine au.any ?_ | refine au.cons ?_ | refine au.eq (by rw[wrap_i64 (by omega)];rfl) ?_)
     · conv=>whnf
       exact trivial
 · have hie:i=16:=by
    simp only[ao,decide_eq_false_iff_not] at hlt
    omega
   subst hie
   conv=>whnf
   repeat (refine aa.of ?_;conv=>whnf)
   exact⟨_,ax.refl _,by rw[aV hall]⟩
theorem qO (s:bW) (E:List Value) (hR:dJ s E) (hl:E.length=380):af Tryz.prog 48 [.agg ⟨E⟩] (fun _=>True) (fun v F=>v = .bool (allI 32 (kindOk s.T))):=by
 have hEl:E.length=380:=hl
 refine af.aG ae Tryz.func48 rfl (by decide) (n:=Tryz.f48.ntmps - 1) rfl rfl fun w0 av=>?_
 conv=>whnf
 repeat (refine aa.of ?_;conv=>whnf)
 refine ar.bQ fun br=>?_
 conv=>whnf
 repeat (refine aa.of ?_;conv=>whnf)
 refine az.loop ae (ι:=Nat) ([3,4]++List.range' 5 30) (fun z=>z≤32∧∀ j,j<z→kindOk s.T j=true)
  (fun z=>[(3,.v (.int .i64 (z:Int)))]) (fun _=>[]) (fun _=>⟨fun _=>True,[(br,Row.c E)]⟩)
  (fun z=>32 - z) 0 ⟨Nat.zero_le _,fun j h=>by omega⟩ ?_ rfl (ax.of_le ⟨by simp[Value.cells],fun w hw=>hw⟩) fun i hi=>?_
 · conv=>whnf
   repeat (first | exact au.nil | refine au.any ?_ | refine au.cons ?_)
 obtain⟨hi,hall⟩:=hi
 conv=>whnf
 repeat (refine aa.of ?_;conv=>whnf)
 refine bF.split (fun hlt=>?_) (fun hlt=>?_)
 · have hlt':i<32:=by
    simp only[ao,decide_eq_true_eq] at hlt
    omega
   have hnext:kindOk s.T i=true→∀ j,j<i+1→kindOk s.T j=true:=fun hs j hj=>by
    rcases Nat.lt_or_eq_of_le (Nat.lt_succ_iff.1 hj) with h5 | h5
    · exact hall j h5
    · exact h5 ▸ hs
   have hok:kindOk s.T i=decide ((1≤i∧i≤10→(s.T i).kind=1)∧(16≤i→(s.T i).kind=0∨(s.T i).kind=2∨(s.T i).kind=3)∧(¬ (1≤i∧i≤10)→¬ 16≤i→(s.T i).kind=0)):=rfl
   have hg:=cellOf (hR.eT i hlt') (j:=0) (by decide) rfl
   have h1:=eG (i:Int)
   have h2:=dX (i:Int)
   obtain⟨q1,heq1⟩ : ∃ q,q=decide (1≤(i:Int)∧(i:Int)≤10):=⟨_,rfl⟩
   obtain⟨q2,heq2⟩ : ∃ q,q=decide (16≤(i:Int)∧(i:Int)<32):=⟨_,rfl⟩
   rw[← heq1] at h1
   rw[← heq2] at h2
   have hq1:q1=true↔1≤i∧i≤10:=by rw[heq1,decide_eq_true_eq];omega
   have hq2:q2=true↔16≤i:=by rw[heq2,decide_eq_true_eq];omega
   clear heq1 heq2
   obtain⟨k,hk⟩ : ∃ k,(s.T i).kind=k:=⟨_,rfl⟩
   rw[hk] at hok hg
   conv=>whnf
   repeat (refine aa.of ?_;conv=>whnf)
   repeat' (first
    | (refine aa.of ?_;conv=>whnf)
    | (refine ar.aj (ak.bj ae rfl rfl rfl i rfl (by omega) rfl ?_);conv=>whnf)
    | (refine ar.aj (ak.aH ae rfl rfl (ad:=⟨br,0,none⟩) (k:=i*8+0) (L:=E) (v:=.int .i64 k) (aK.row (by simp[Value.cells])) (fun _=>Addr.bD rfl _ _) hg ?_);conv=>whnf)
    | (refine aw.val h1 (fun w hw=>trivial) (fun v D hv=>?_);subst hv;cases q1<;>conv=>whnf)
    | (refine aw.val h2 (fun w hw=>trivial) (fun v D hv=>?_);subst hv;cases q2<;>conv=>whnf)
    | (refine bF.split (fun hq=>?_) (fun hq=>?_)<;>conv=>whnf))
   all_goals first
    | (refine⟨_,ax.refl _,?_⟩;rw[aJ hlt' (by rw[hok];((try subst heq1);(try subst heq2);(try subst heq3);simp only[cond_true,cond_false,ao,aC,aB,aD,aA,aE,decide_eq_true_eq,decide_eq_false_iff_not,beq_iff_eq,bne_iff_ne,ne_eq,beq_eq_false_iff_ne,bne_eq_false_iff_eq,Bool.not_eq_true,Bool.not_eq_false,Bool.and_true,Bool.true_and,Bool.and_false,Bool.false_and,Bool.or_true,Bool.or_false,Bool.true_or,Bool.false_or,Bool.not_eq_true',Bool.not_eq_false',Bool.not_true,Bool.not_false,true_iff,Bool.false_eq_true,false_iff,Bool.and_eq_true,Bool.and_eq_false_iff] at *;first | omega))];first | done | rfl)
    | (
     refine⟨i+1,⟨⟨hlt',hnext (by rw[hok];((try subst heq1);(try subst heq2);(try subst heq3);simp only[cond_true,cond_false,ao,aC,aB,aD,aA,aE,decide_eq_true_eq,decide_eq_false_iff_not,beq_iff_eq,bne_iff_ne,ne_eq,beq_eq_false_iff_ne,bne_eq_false_iff_eq,Bool.not_eq_true,Bool.not_eq_false,Bool.and_true,Bool.true_and,Bool.and_false,Bool.false_and,Bool.or_true,Bool.or_false,Bool.true_or,Bool.false_or,Bool.not_eq_true',Bool.not_eq_false',Bool.not_true,Bool.not_false,true_iff,Bool.false_eq_true,false_iff,Bool.and_eq_true,Bool.and_eq_false_iff] at *;first | omega))⟩,by dsimp only;omega⟩,?_,?_,ax.refl _⟩;(conv=>whnf);refine⟨?_,rfl⟩;repeat (first | exact au.nil | refine au.any ?_ | refine au.cons ?_ | refine au.eq (by rw[wrap_i64 (by omega)];rfl) ?_)
     (conv=>whnf);exact trivial)
 · have hie:i=32:=by
    simp only[ao,decide_eq_false_iff_not] at hlt
    omega
   subst hie
   conv=>whnf
   repeat (refine aa.of ?_;conv=>whnf)
   exact⟨_,ax.refl _,by rw[aV hall]⟩
theorem qR (s:bW) (E:List Value) (hR:dJ s E) (hl:E.length=380) (i:Nat) (hi:i<32):af Tryz.prog 96 [.agg ⟨E⟩,.int .i64 (i:Int)] (fun _=>True) (fun v F=>v = .bool (ev s.T i)):=by
 have h1:=fS s E hR hl i hi
 have hT:=hR.eT i hi
 have hw:ev s.T i=if kR s i then eB (s.T i) else gy (s.T i):=by
  unfold ev kR
  by_cases c1:16≤i<;>by_cases c2:(s.T i).kind=0<;>simp[c1,c2,aE]
 rw[hw]
 generalize kR s i=q at *
 unfold eB sU gy
 obtain⟨x,hx⟩ : ∃ x,s.T i=x:=⟨_,rfl⟩
 rw[hx] at hT ⊢
 clear hw
 have hEl:E.length=380:=hl
 refine af.aG ae Tryz.func96 rfl (by decide) (n:=Tryz.f96.ntmps - 2) rfl rfl fun w0 av=>?_
 conv=>whnf
 repeat (refine aa.of ?_;conv=>whnf)
 refine ar.bQ fun br=>?_
 conv=>whnf
 repeat (refine aa.of ?_;conv=>whnf)
 refine ar.aj (ak.bj ae rfl rfl rfl i rfl (by omega) rfl ?_)
 conv=>whnf
 repeat (refine aa.of ?_;conv=>whnf)
 refine ar.aj (ak.aQ ae rfl rfl (ad:=⟨br,0,none⟩) (k:=i*8) (L:=E) (m:=fL x) (aK.row (by simp[Value.cells])) (by first | rfl) hT rfl ?_)
 conv=>whnf
 repeat (refine aa.of ?_;conv=>whnf)
 intro b5
 conv=>whnf
 repeat (refine aa.of ?_;conv=>whnf)
 repeat' (first
  | (refine aa.of ?_;conv=>whnf)
  | (refine ar.aj (ak.aQ ae rfl rfl (ad:=⟨br,0,none⟩) (k:=0) (L:=E) (m:=E) (aK.row (by simp[Value.cells,Fx.and])) rfl (by rw[List.drop_zero];exact List.take_of_length_le (by rw[hEl];exact Nat.le_refl _)) hEl ?_);conv=>whnf)
  | (refine aw.val h1 (fun w hw=>trivial) (fun v D hv=>?_);subst hv;cases q<;>conv=>whnf)
  | (refine bF.split (fun h=>?_) (fun h=>?_)<;>conv=>whnf)
  | (split<;>conv=>whnf))
 all_goals refine⟨_,ax.refl _,?_⟩
 all_goals first | rfl | (congr 1;rw[Bool.eq_iff_iff];simp_all [aD,ao,aC,aB,aA,aE,and_assoc];done) | (congr 1;rw[Bool.eq_iff_iff];simp_all [aD,ao,aC,aB,aA,aE,and_assoc];omega) | (congr 1;rw[Bool.eq_iff_iff];simp_all [aD,ao,aC,aB,aA,aE,and_assoc];intro a1 a2 a3;rename_i ho;rcases ho with ho | ho | ho<;>first | omega | (rw[ho] at a3;cases a3))
theorem mL (s:bW) (E:List Value) (hR:dJ s E) (hl:E.length=380):af Tryz.prog 49 [.agg ⟨E⟩] (fun _=>True) (fun v F=>v = .bool (allI 32 (ev s.T))):=by
 have hEl:E.length=380:=hl
 refine af.aG ae Tryz.func49 rfl (by decide) (n:=Tryz.f49.ntmps - 1) rfl rfl fun w0 av=>?_
 conv=>whnf
 repeat (refine aa.of ?_;conv=>whnf)
 refine ar.bQ fun br=>?_
 conv=>whnf
 repeat (refine aa.of ?_;conv=>whnf)
 refine az.loop ae (ι:=Nat) (List.range' 3 9) (fun z=>z≤32∧∀ j,j<z→ev s.T j=true)
  (fun z=>[(3,.v (.int .i64 (z:Int)))]) (fun _=>[]) (fun _=>⟨fun _=>True,[(br,Row.c E)]⟩)
  (fun z=>32 - z) 0 ⟨Nat.zero_le _,fun j h=>by omega⟩ ?_ rfl (ax.of_le ⟨by simp[Value.cells],fun w hw=>hw⟩) fun i hi=>?_
 · conv=>whnf
   repeat (first | exact au.nil | refine au.any ?_ | refine au.cons ?_)
 obtain⟨hi,hall⟩:=hi
 conv=>whnf
 repeat (refine aa.of ?_;conv=>whnf)
 refine bF.split (fun hlt=>?_) (fun hlt=>?_)
 · have hlt':i<32:=by
    simp only[ao,decide_eq_true_eq] at hlt
    omega
   have hnext:ev s.T i=true→∀ j,j<i+1→ev s.T j=true:=fun hs j hj=>by
    rcases Nat.lt_or_eq_of_le (Nat.lt_succ_iff.1 hj) with h5 | h5
    · exact hall j h5
    · exact h5 ▸ hs
   have h1:=qR s E hR hl i hlt'
   obtain⟨q,hq⟩ : ∃ q,ev s.T i=q:=⟨_,rfl⟩
   rw[hq] at h1
   conv=>whnf
   repeat (refine aa.of ?_;conv=>whnf)
   refine ar.aj (ak.aQ ae rfl rfl (ad:=⟨br,0,none⟩) (k:=0) (L:=E) (m:=E) (aK.row (by simp[Value.cells,Fx.and])) rfl (by rw[List.drop_zero];exact List.take_of_length_le (by rw[hEl];exact Nat.le_refl _)) hEl ?_)
   conv=>whnf
   repeat (refine aa.of ?_;conv=>whnf)
   refine aw.val h1 (fun w hw=>trivial) (fun v D hv=>?_)
   subst hv
   cases q
   · conv=>whnf
     repeat (refine aa.of ?_;conv=>whnf)
     exact⟨_,ax.refl _,by rw[aJ hlt' hq]⟩
   · conv=>whnf
     repeat (refine aa.of ?_;conv=>whnf)
     refine⟨i+1,⟨⟨hlt',hnext hq⟩,by dsimp only;omega⟩,?_,?_,ax.refl _⟩
     · conv=>whnf
       refine⟨?_,rfl⟩
       repeat (first | exact au.nil | refine au.any ?_ | refine au.cons ?_ | refine au.eq (by rw[wrap_i64 (by omega)];rfl) ?_)
     · conv=>whnf
       exact trivial
 · have hie:i=32:=by
    simp only[ao,decide_eq_false_iff_not] at hlt
    omega
   subst hie
   conv=>whnf
   repeat (refine aa.of ?_;conv=>whnf)
   exact⟨_,ax.refl _,by rw[aV hall]⟩
instance:Inhabited Acc:=⟨⟨0,0,0,0,0,false⟩⟩
theorem sC (s:bW) (E:List Value) (hR:dJ s E) (hl:E.length=380) (hw:s.Wide):af Tryz.prog 60 [.agg ⟨E⟩] s.Rows (fun v F=>v = .bool (lA s)):=by
 have e:lA s=(allI s.ti.l.length (cU s.ti.l fun t=>eW t.due s.now)&&(allI s.ac.l.length (cU s.ac.l d_)&&aR s.lk.now s.now)):=by
  unfold lA
  rw[fM s.ti.l,fM s.ac.l,Bool.not_not,Bool.not_not]
  generalize allI s.ti.l.length (cU s.ti.l fun t=>eW t.due s.now)=x
  generalize allI s.ac.l.length (cU s.ac.l d_)=y
  generalize aR s.lk.now s.now=z
  cases x<;>cases y<;>cases z<;>rfl
 rw[e]
 have hrT : ∀ w,s.Rows w→ai w s.ti.h.a (s.ti.l.flatMap cu):=fun w h=>h.ti
 have hrA : ∀ w,s.Rows w→ai w s.ac.h.a (s.ac.l.flatMap rF):=fun w h=>h.ac
 have gT:=hR.eTi
 have gA:=hR.eAc
 have gW:=hR.eNow
 have gN:E[323]? = some (.int .i64 s.lk.now):=cellOf hR.eLk (j:=1) (by decide) rfl
 have hth:=hw.ti.h
 have hah:=hw.ac.h
 have htl:=hw.ti.le
 have hal:=hw.ac.le
 rw[show s.ti.v=s.ti.h.v s.ti.l.length from rfl] at gT
 rw[show s.ac.v=s.ac.h.v s.ac.l.length from rfl] at gA
 generalize s.ti.h=th at *
 generalize s.ti.l=tl at *
 generalize s.ac.h=ah at *
 generalize s.ac.l=al at *
 have hEl:E.length=380:=hl
 refine af.aG ae Tryz.func60 rfl (by decide) (n:=Tryz.f60.ntmps - 1) rfl rfl fun w0 av=>?_
 conv=>whnf
 repeat (refine aa.of ?_;conv=>whnf)
 refine ar.bQ fun br=>?_
 conv=>whnf
 repeat (refine aa.of ?_;conv=>whnf)
 refine az.loop ae (ι:=Nat) (List.range' 3 1++List.range' 6 17) (fun z=>z≤tl.length∧∀ j,j<z→cU tl (fun t=>eW t.due s.now) j=true)
  (fun z=>[(3,.v (.int .i64 (z:Int)))]) (fun _=>[]) (fun _=>⟨s.Rows,[(br,Row.c E)]⟩)
  (fun z=>tl.length - z) 0 ⟨Nat.zero_le _,fun j h=>by omega⟩ ?_ rfl (ax.of_le ⟨by simp[Value.cells],fun w hw=>hw⟩) fun i hi=>?_
 · conv=>whnf
   repeat (first | exact au.nil | refine au.any ?_ | refine au.cons ?_)
 obtain⟨hi,hall⟩:=hi
 conv=>whnf
 repeat (refine aa.of ?_;conv=>whnf)
 repeat' (first
  | (refine ar.aj (ak.aH ae rfl rfl (ad:=⟨br,0,none⟩) (k:=272) (L:=E) (v:=th.v tl.length) (aK.row (by simp[Value.cells])) (fun _=>rfl) gT ?_);conv=>whnf))
 refine bF.split (fun hlt=>?_) (fun hlt=>?_)
 · have hlt':i<tl.length:=by
    simp only[ao,decide_eq_true_eq] at hlt
    omega
   have hok:cU tl (fun t=>eW t.due s.now) i=(!eW tl[i].due s.now):=by
    unfold cU
    rw[bn hlt']
   obtain⟨q,hq⟩ : ∃ q,eW tl[i].due s.now=q:=⟨_,rfl⟩
   rw[hq] at hok
   have hnext:cU tl (fun t=>eW t.due s.now) i=true→∀ j,j<i+1→cU tl (fun t=>eW t.due s.now) j=true:=fun hs j hj=>by
    rcases Nat.lt_or_eq_of_le (Nat.lt_succ_iff.1 hj) with h5 | h5
    · exact hall j h5
    · exact h5 ▸ hs
   conv=>whnf
   repeat (refine aa.of ?_;conv=>whnf)
   refine az.draw ae mixed rfl rfl ?_
   conv=>whnf
   repeat' (first
    | (refine ak.aH ae rfl rfl (ad:=⟨br,0,none⟩) (k:=272) (L:=E) (v:=th.v tl.length) (aK.row (by simp[Value.cells])) (fun _=>rfl) gT ?_;conv=>whnf)
    | (refine ak.aH ae rfl rfl (ad:=⟨br,0,none⟩) (k:=369) (L:=E) (v:=.int .i64 s.now) (aK.row (by simp[Value.cells])) (fun _=>rfl) gW ?_;conv=>whnf)
    | (refine ak.index ae (t:=37) rfl rfl rfl (by first | omega) (by first | omega) hth.nil fun ad had=>?_;conv=>whnf)
    | (refine ak.aH ae rfl rfl (ad:=ad) (k:=i*3+2) (L:=tl.flatMap cu) (v:=.int .i64 tl[i].due) (.fact fun w hw=>had ▸ hrT w hw) ?adr (bY (cf:=cu) (z:=3) (fun _=>rfl) hlt' (by decide)) ?_;(case adr=>intro hs;first | rfl | (rw[Addr.bD hs];rfl));conv=>whnf)
    | (rw[hq];cases q<;>conv=>whnf))
   · refine⟨i+1,⟨⟨hlt',hnext (by rw[hok];rfl)⟩,by dsimp only;omega⟩,?_,?_,ax.refl _⟩
     · conv=>whnf
       refine⟨?_,rfl⟩
       repeat (first | exact au.nil | refine au.any ?_ | refine au.cons ?_ | refine au.eq (by rw[wrap_i64 (by omega)];rfl) ?_)
     · conv=>whnf
       exact trivial
   · exact⟨_,ax.refl _,by rw[aJ hlt' (by rw[hok];rfl)];rfl⟩
 · have hie:i=tl.length:=by
    simp only[ao,decide_eq_false_iff_not] at hlt
    omega
   subst hie
   conv=>whnf
   repeat (refine aa.of ?_;conv=>whnf)
   rw[aV hall,Bool.true_and]
   clear hall hi
   refine az.loop ae (ι:=Nat) ([4,5]++List.range' 23 43) (fun z=>z≤al.length∧∀ j,j<z→cU al d_ j=true)
    (fun z=>[(4,.v (.int .i64 (z:Int)))]) (fun _=>[]) (fun _=>⟨s.Rows,[(br,Row.c E)]⟩)
    (fun z=>al.length - z) 0 ⟨Nat.zero_le _,fun j h=>by omega⟩ ?_ rfl (ax.of_le ⟨by simp[Value.cells],fun w hw=>hw⟩) fun i hi=>?_
   · conv=>whnf
     repeat (first | exact au.nil | refine au.any ?_ | refine au.cons ?_)
   obtain⟨hi,hall⟩:=hi
   conv=>whnf
   repeat (refine aa.of ?_;conv=>whnf)
   repeat' (first
    | (refine ar.aj (ak.aH ae rfl rfl (ad:=⟨br,0,none⟩) (k:=378) (L:=E) (v:=ah.v al.length) (aK.row (by simp[Value.cells])) (fun _=>rfl) gA ?_);conv=>whnf))
   refine bF.split (fun hlt=>?_) (fun hlt=>?_)
   · have hlt':i<al.length:=by
      simp only[ao,decide_eq_true_eq] at hlt
      omega
     have hok:cU al d_ i=(!d_ al[i]):=by
      unfold cU
      rw[bn hlt']
     have hnext:cU al d_ i=true→∀ j,j<i+1→cU al d_ j=true:=fun hs j hj=>by
      rcases Nat.lt_or_eq_of_le (Nat.lt_succ_iff.1 hj) with h5 | h5
      · exact hall j h5
      · exact h5 ▸ hs
     conv=>whnf
     repeat (refine aa.of ?_;conv=>whnf)
     repeat' (first
      | (refine ar.aj (ak.aH ae rfl rfl (ad:=⟨br,0,none⟩) (k:=378) (L:=E) (v:=ah.v al.length) (aK.row (by simp[Value.cells])) (fun _=>rfl) gA ?_);conv=>whnf)
      | (refine ar.aj (ak.index ae (t:=71) rfl rfl rfl (by first | omega) (by first | omega) hah.nil fun ad had=>?_);conv=>whnf)
      | (refine ar.aj (ak.aQ ae rfl rfl (ad:=ad) (k:=i*6) (L:=al.flatMap rF) (m:=rF al[i]) (.fact fun w hw=>had ▸ hrA w hw) ?adr (a8 (cf:=rF) (z:=6) (fun _=>rfl) hlt') rfl ?_);(case adr=>first | rfl);conv=>whnf))
     intro b5
     conv=>whnf
     repeat (refine aa.of ?_;conv=>whnf)
     repeat' (first
      | (split<;>conv=>whnf))
     all_goals rename_i hx
     · refine⟨_,ax.refl _,?_⟩
       have hq:d_ al[i]=true:=by
        rw[← hx]
        unfold d_
        simp only[Bool.or_assoc]
        rw[Bool.or_left_comm (fI al[i].len 1)]
       rw[aJ hlt' (by rw[hok,hq];rfl)]
       rfl
     · have hq:d_ al[i]=false:=by
        rw[← hx]
        unfold d_
        simp only[Bool.or_assoc]
        rw[Bool.or_left_comm (fI al[i].len 1)]
       refine⟨i+1,⟨⟨hlt',hnext (by rw[hok,hq];rfl)⟩,by dsimp only;omega⟩,?_,?_,ax.refl _⟩
       · conv=>whnf
         refine⟨?_,rfl⟩
         repeat (first | exact au.nil | refine au.any ?_ | refine au.cons ?_ | refine au.eq (by rw[wrap_i64 (by omega)];rfl) ?_)
       · conv=>whnf
         exact trivial
   · have hie:i=al.length:=by
      simp only[ao,decide_eq_false_iff_not] at hlt
      omega
     subst hie
     conv=>whnf
     repeat (refine aa.of ?_;conv=>whnf)
     rw[aV hall,Bool.true_and]
     repeat' (first
      | (refine ar.aj (ak.aH ae rfl rfl (ad:=⟨br,0,none⟩) (k:=323) (L:=E) (v:=.int .i64 s.lk.now) (aK.row (by simp[Value.cells])) (fun _=>rfl) gN ?_);conv=>whnf)
      | (refine ar.aj (ak.aH ae rfl rfl (ad:=⟨br,0,none⟩) (k:=369) (L:=E) (v:=.int .i64 s.now) (aK.row (by simp[Value.cells])) (fun _=>rfl) gW ?_);conv=>whnf))
     exact⟨_,ax.refl _,rfl⟩
theorem sm (s:bW) (E:List Value) (hR:dJ s E) (hl:E.length=380):af Tryz.prog 57 [.agg ⟨E⟩] (fun _=>True) (fun v F=>v = .bool (kb s.D)):=by
 have hD : ∀ i,i<11→E[256+i]? = some (.bool (s.D i)):=fun i hi=>cellOf hR.eD (j:=i) hi (by simp[hi])
 generalize s.D=D at *
 have hEl:E.length=380:=hl
 refine af.aG ae Tryz.func57 rfl (by decide) (n:=Tryz.f57.ntmps - 1) rfl rfl fun w0 av=>?_
 conv=>whnf
 repeat (refine aa.of ?_;conv=>whnf)
 refine ar.bQ fun br=>?_
 conv=>whnf
 repeat (refine aa.of ?_;conv=>whnf)
 refine az.loop ae (ι:=Nat) ([3,4]++List.range' 5 10) (fun x=>x≤11)
  (fun x=>[(3,.v (.int .i64 (fF D x:Int))),(4,.v (.int .i64 (x:Int)))]) (fun _=>[]) (fun _=>⟨fun w=>True,[(br,Row.c E)]⟩)
  (fun x=>11 - x) 0 (Nat.zero_le _) ?_ rfl (ax.of_le ⟨by simp[Value.cells],fun w hw=>hw⟩) fun i hi=>?_
 · conv=>whnf
   repeat (first | exact au.nil | refine au.any ?_ | refine au.cons ?_)
 have hle:=ow D i
 conv=>whnf
 repeat (refine aa.of ?_;conv=>whnf)
 refine bF.split (fun hlt=>?_) (fun hlt=>?_)
 · have hlt':i<11:=by
    simp[aC] at hlt
    omega
   have hn:fF D (i+1)=fF D i+(if D i then 1 else 0):=rfl
   have hg:=hD i hlt'
   conv=>whnf
   repeat (refine aa.of ?_;conv=>whnf)
   refine ar.aj (ak.bj ae rfl rfl rfl i rfl (by omega) rfl ?_)
   conv=>whnf
   repeat (refine aa.of ?_;conv=>whnf)
   refine ar.aj (ak.aH ae rfl rfl (ad:=⟨br,0,none⟩) (k:=256+i) (L:=E) (v:=.bool (D i)) (aK.row (by simp[Value.cells])) (fun _=>by rw[jR,Nat.mul_one];simp[Addr.add]) hg ?_)
   conv=>whnf
   repeat (refine aa.of ?_;conv=>whnf)
   generalize D i=q at *
   cases q
   all_goals
    conv=>whnf
    repeat (refine aa.of ?_;conv=>whnf)
    refine⟨i+1,⟨hlt',by dsimp only;omega⟩,?_,?_,ax.refl _⟩
    · conv=>whnf
      refine⟨?_,rfl⟩
      repeat (first | exact au.nil | refine au.any ?_ | refine au.cons ?_ | refine au.eq (by rw[wrap_i64 (by omega)];rfl) ?_ | refine au.eq (by show _=SV.v (Value.int .i64 ((fF D (i+1):Nat):Int));rw[hn];first | rfl | (rw[wrap_i64 (by omega)];rfl)) ?_)
    · conv=>whnf
      exact trivial
 · have hie:i=11:=by
    simp[aC] at hlt
    omega
   have hdo:kb D=(eW ((fF D i:Nat):Int) 1&&(!D 0 && !D 1)):=by
    rw[hie]
    unfold kb
    congr 1
    rw[aC,Bool.eq_iff_iff]
    simp
    omega
   have h0:=hD 0 (by decide)
   have h1:=hD 1 (by decide)
   rw[hdo]
   generalize fF D i=dn at *
   generalize D 0=e0 at *
   generalize D 1=e1 at *
   generalize hq:eW (dn:Int) 1=q
   conv=>whnf
   repeat (refine aa.of ?_;conv=>whnf)
   rw[hq]
   cases q<;>cases e0<;>cases e1
   all_goals
    conv=>whnf
    repeat (refine aa.of ?_;conv=>whnf)
    repeat' (first
     | (refine ar.aj (ak.bj ae (t:=26) rfl rfl rfl 0 rfl (by decide) rfl ?_);conv=>whnf)
     | (refine ar.aj (ak.bj ae (t:=26) rfl rfl rfl 1 rfl (by decide) rfl ?_);conv=>whnf)
     | (refine ar.aj (ak.aH ae rfl rfl (ad:=⟨br,0,none⟩) (k:=256) (L:=E) (v:=_) (aK.row (by simp[Value.cells])) (fun _=>rfl) h0 ?_);conv=>whnf)
     | (refine ar.aj (ak.aH ae rfl rfl (ad:=⟨br,0,none⟩) (k:=257) (L:=E) (v:=_) (aK.row (by simp[Value.cells])) (fun _=>rfl) h1 ?_);conv=>whnf))
   all_goals exact⟨_,ax.refl _,rfl⟩
theorem fJ (n:Int):af Tryz.prog 153 [.int .i64 n] (fun _=>True) (fun v F=>v = .bool (decide (0≤n∧n<32))):=by
 refine af.aG ae Tryz.func153 rfl (by decide) (n:=Tryz.f153.ntmps - 1) rfl rfl fun w0 av=>?_
 conv=>whnf
 repeat (refine aa.of ?_;conv=>whnf)
 repeat' (first
  | (refine cj.mk ?_ ?_;(focus (first | exact ax.refl _ | exact ax.left _ _ | exact ax.of_le ⟨List.sublist_append_left _ _,fun w h=>h⟩ | exact ax.of_le ⟨List.Sublist.refl _,fun w h=>h.1⟩));conv=>whnf))
 all_goals refine⟨_,ax.refl _,?_⟩
 all_goals first | rfl | (congr 1;rw[Bool.eq_iff_iff];simp_all [aD,ao,aC,aB,aA,aE,and_assoc];done)
theorem pc (x y:Pr):af Tryz.prog 154 [.agg ⟨b_ x⟩,.agg ⟨b_ y⟩] (fun _=>True) (fun v F=>v = .bool (decide (dN x.src y.src x.dst y.dst<0))):=by
 have e:decide (dN x.src y.src x.dst y.dst<0)=decide (x.src<y.src∨(x.src=y.src∧x.dst<y.dst)):=decide_eq_decide.2 (la _ _ _ _)
 rw[e]
 refine af.aG ae Tryz.func154 rfl (by decide) (n:=Tryz.f154.ntmps - 2) rfl rfl fun w0 av=>?_
 conv=>whnf
 repeat (refine aa.of ?_;conv=>whnf)
 intro b0
 conv=>whnf
 repeat (refine aa.of ?_;conv=>whnf)
 intro b1
 conv=>whnf
 repeat (refine aa.of ?_;conv=>whnf)
 repeat' (first
  | (split<;>conv=>whnf))
 all_goals refine⟨_,ax.refl _,?_⟩
 all_goals first | rfl | (congr 1;rw[Bool.eq_iff_iff];simp_all [aD,ao,aC,aB,aA,aE,and_assoc];done)
theorem oH (x:Mg):af Tryz.prog 155 [.agg ⟨gv x⟩] (fun _=>True) (fun v F=>v = .bool (zW x)):=by
 have h1:=fJ x.src
 have h2:=fJ x.dst
 unfold zW
 generalize decide (0≤x.src∧x.src<32)=q1 at *
 generalize decide (0≤x.dst∧x.dst<32)=q2 at *
 refine af.aG ae Tryz.func155 rfl (by decide) (n:=Tryz.f155.ntmps - 1) rfl rfl fun w0 av=>?_
 conv=>whnf
 repeat (refine aa.of ?_;conv=>whnf)
 intro b1
 conv=>whnf
 repeat (refine aa.of ?_;conv=>whnf)
 repeat' (first
  | (refine aa.of ?_;conv=>whnf)
  | (refine aw.val h1 (fun w hw=>trivial) (fun v D hv=>?_);subst hv;cases q1<;>conv=>whnf)
  | (refine aw.val h2 (fun w hw=>trivial) (fun v D hv=>?_);subst hv;cases q2<;>conv=>whnf))
 all_goals refine⟨_,ax.refl _,?_⟩
 all_goals first | rfl | (congr 1;rw[Bool.eq_iff_iff];simp_all [aD,ao,aC,aB,aA,aE,and_assoc];omega)
theorem rT (qv:Value) (hqv:a7 qv=true) (hqc:qv.cells.toList = [qv]) (l:List Pr) (h:Hd) (hh:h.Ok l.length) (hl:l.length≤140737488355328) (s d:Int) :
 af Tryz.prog 220 [.agg ⟨[qv,h.v l.length]⟩,.int .i64 s,.int .i64 d] (fun w=>ai w h.a (l.flatMap b_)) (fun v F=>v = .int .i64 (eF l s d)):=by
 refine af.aG ae Tryz.func220 rfl (by decide) (n:=Tryz.f220.ntmps - 3) rfl rfl fun w0 av=>?_
 conv=>whnf
 repeat (refine aa.of ?_;conv=>whnf)
 intro b3
 conv=>whnf
 repeat (refine aa.of ?_;conv=>whnf)
 refine az.loop ae (ι:=Nat) (List.range' 7 32) (fun k=>k≤l.length∧∀ j (hj:j<l.length),j<k→ky s d l[j]=false)
  (fun k=>[(7,.v (.int .i64 (k:Int)))]) (fun _=>[[qv,h.v l.length]]) (fun _=>⟨fun w=>ai w h.a (l.flatMap b_),[]⟩)
  (fun k=>l.length - k) 0 ⟨Nat.zero_le _,fun j hj h=>by omega⟩ ?_ rfl (ax.of_le ⟨by simp[Value.cells],fun w hw=>hw⟩) fun i hi=>?_
 · conv=>whnf
   repeat (first | exact au.nil | refine au.any ?_ | refine au.cons ?_)
 obtain⟨hi,hall⟩:=hi
 conv=>whnf
 repeat (refine aa.of ?_;conv=>whnf)
 refine bF.split (fun hlt=>?_) (fun hlt=>?_)
 · have hlt':i<l.length:=by
    simp only[ao,decide_eq_true_eq] at hlt
    omega
   obtain⟨a,ha⟩ : ∃ a,aR l[i].src s=a:=⟨_,rfl⟩
   obtain⟨b,hb⟩ : ∃ b,aR l[i].dst d=b:=⟨_,rfl⟩
   have hp:ky s d l[i]=(a&&b):=by rw[← ha,← hb];rfl
   have hnext:ky s d l[i]=false→∀ j (hj:j<l.length),j<i+1→ky s d l[j]=false:=fun hq j hj h=>by
    rcases Nat.lt_or_eq_of_le (Nat.lt_succ_iff.1 h) with h5 | h5
    · exact hall j hj h5
    · subst h5
      exact hq
   have hyes:ky s d l[i]=true→l[i].seq=eF l s d:=fun hq=>by
    have:l.findIdx? (ky s d)=some i:=by
     rw[List.findIdx?_eq_some_iff_getElem]
     exact⟨hlt',hq,fun j hj=>by simpa using hall j (by omega) hj⟩
    unfold eF
    rw[this]
    show _=l[i]!.seq
    rw[bn hlt']
   conv=>whnf
   repeat (refine aa.of ?_;conv=>whnf)
   repeat' (first
    | (refine ar.aj (ak.index ae (t:=28) rfl rfl rfl (by first | omega) (by first | omega) hh.nil fun ad had=>?_);conv=>whnf)
    | (refine ar.aj (ak.aH ae rfl rfl (ad:=ad) (k:=i*3+0) (L:=l.flatMap b_) (v:=.int .i64 l[i].src) (.fact fun w hw=>had ▸ hw) ?adr (bY (cf:=b_) (z:=3) (fun _=>rfl) hlt' (by decide)) ?_);(case adr=>intro hs;first | rfl);conv=>whnf)
    | (refine ar.aj (ak.aH ae rfl rfl (ad:=ad) (k:=i*3+1) (L:=l.flatMap b_) (v:=.int .i64 l[i].dst) (.fact fun w hw=>had ▸ hw) ?adr (bY (cf:=b_) (z:=3) (fun _=>rfl) hlt' (by decide)) ?_);(case adr=>intro hs;first | rfl | (rw[Addr.bD hs];rfl));conv=>whnf)
    | (refine ar.aj (ak.aH ae rfl rfl (ad:=ad) (k:=i*3+2) (L:=l.flatMap b_) (v:=.int .i64 l[i].seq) (.fact fun w hw=>had ▸ hw) ?adr (bY (cf:=b_) (z:=3) (fun _=>rfl) hlt' (by decide)) ?_);(case adr=>intro hs;first | rfl | (rw[Addr.bD hs];rfl));conv=>whnf)
    | (rw[ha];cases a<;>conv=>whnf)
    | (rw[hb];cases b<;>conv=>whnf))
   · refine⟨i+1,⟨⟨hlt',hnext (by rw[hp];rfl)⟩,by dsimp only;omega⟩,?_,?_,ax.refl _⟩
     · conv=>whnf
       refine⟨?_,rfl⟩
       repeat (first | exact au.nil | refine au.any ?_ | refine au.cons ?_ | refine au.eq (by rw[wrap_i64 (by omega)];rfl) ?_)
     · conv=>whnf
       exact⟨⟨rfl,rfl⟩,trivial⟩
   · refine⟨i+1,⟨⟨hlt',hnext (by rw[hp];rfl)⟩,by dsimp only;omega⟩,?_,?_,ax.refl _⟩
     · conv=>whnf
       refine⟨?_,rfl⟩
       repeat (first | exact au.nil | refine au.any ?_ | refine au.cons ?_ | refine au.eq (by rw[wrap_i64 (by omega)];rfl) ?_)
     · conv=>whnf
       exact⟨⟨rfl,rfl⟩,trivial⟩
   · exact⟨_,ax.refl _,by rw[hyes (by rw[hp];rfl)]⟩
 · have hie:i=l.length:=by
    simp only[ao,decide_eq_false_iff_not] at hlt
    omega
   subst hie
   conv=>whnf
   repeat (refine aa.of ?_;conv=>whnf)
   refine⟨_,ax.refl _,?_⟩
   have:l.findIdx? (ky s d)=none:=by
    rw[List.findIdx?_eq_none_iff]
    intro y hy
    obtain⟨j,hj,rfl⟩:=List.getElem_of_mem hy
    simpa using hall j hj hj
   unfold eF
   rw[this]
def tL (q:List Mg) (i k:Nat):Bool:=!(aR q[k]!.src q[i]!.src&&(aR q[k]!.dst q[i]!.dst&&dL q[k]!.seq q[i]!.seq))
def oM (l:List Pr) (q:List Mg) (i:Nat):Bool:=allI i (tL q i)&&(dL q[i]!.seq 1&&eW q[i]!.seq (eF l q[i]!.src q[i]!.dst))
theorem ph (q:List Mg) (qh:Hd) (hqh:qh.Ok q.length) (hql:q.length≤140737488355328) (l:List Pr) (h:Hd) (hh:h.Ok l.length) (hl:l.length≤140737488355328) (i:Nat) (hi:i<q.length) :
 af Tryz.prog 156 [.agg ⟨[qh.v q.length,h.v l.length]⟩,.int .i64 (i:Int)] (fun w=>ai w h.a (l.flatMap b_)∧ai w qh.a (q.flatMap gv)) (fun v F=>v = .bool (oM l q i)):=by
 have hL:=rT (qh.v q.length) rfl rfl l h hh hl q[i].src q[i].dst
 unfold oM
 rw[bn hi]
 obtain⟨P,hP⟩ : ∃ P,eF l q[i].src q[i].dst=P:=⟨_,rfl⟩
 rw[hP] at hL ⊢
 obtain⟨x,hx⟩ : ∃ x,q[i]=x:=⟨_,rfl⟩
 rw[hx] at hL ⊢
 refine af.aG ae Tryz.func156 rfl (by decide) (n:=Tryz.f156.ntmps - 2) rfl rfl fun w0 av=>?_
 conv=>whnf
 repeat (refine aa.of ?_;conv=>whnf)
 intro b2
 conv=>whnf
 repeat (refine aa.of ?_;conv=>whnf)
 refine ar.aj (ak.index ae (t:=27) rfl rfl rfl (by omega) (by omega) hqh.nil fun ad had=>?_)
 conv=>whnf
 repeat (refine aa.of ?_;conv=>whnf)
 refine ar.aj (ak.aQ ae rfl rfl (ad:=ad) (k:=i*9) (L:=q.flatMap gv) (m:=gv x) (.fact fun w hw=>had ▸ hw.2) (by simp) (by rw[← hx];exact a8 (cf:=gv) (z:=9) (fun _=>rfl) hi) rfl ?_)
 conv=>whnf
 repeat (refine aa.of ?_;conv=>whnf)
 intro b5
 conv=>whnf
 repeat (refine aa.of ?_;conv=>whnf)
 refine az.loop ae (ι:=Nat) ([6,7]++List.range' 13 29) (fun z=>z≤i∧∀ j,j<z→tL q i j=true)
  (fun z=>[(6,.v (.int .i64 (z:Int)))]) (fun _=>[[qh.v q.length,h.v l.length],gv x]) (fun _=>⟨fun w=>ai w h.a (l.flatMap b_)∧ai w qh.a (q.flatMap gv),[]⟩)
  (fun z=>i - z) 0 ⟨Nat.zero_le _,fun j h=>by omega⟩ ?_ rfl (ax.of_le ⟨by simp[Value.cells],fun w hw=>hw⟩) fun k hk=>?_
 · conv=>whnf
   repeat (first | exact au.nil | refine au.any ?_ | refine au.cons ?_)
 obtain⟨hk,hall⟩:=hk
 conv=>whnf
 repeat (refine aa.of ?_;conv=>whnf)
 refine bF.split (fun hlt=>?_) (fun hlt=>?_)
 · have hlt':k<i:=by
    simp only[ao,decide_eq_true_eq] at hlt
    omega
   have hkl:k<q.length:=by omega
   obtain⟨y,hy⟩ : ∃ y,q[k]=y:=⟨_,rfl⟩
   obtain⟨a,ha⟩ : ∃ a,aR y.src x.src=a:=⟨_,rfl⟩
   obtain⟨b,hb⟩ : ∃ b,aR y.dst x.dst=b:=⟨_,rfl⟩
   obtain⟨c,hc⟩ : ∃ c,dL y.seq x.seq=c:=⟨_,rfl⟩
   have hp:tL q i k = !(a&&(b&&c)):=by
    unfold tL
    rw[bn hkl,bn hi,hx,hy,ha,hb,hc]
   have hnext:tL q i k=true→∀ j,j<k+1→tL q i j=true:=fun hq j h=>by
    rcases Nat.lt_or_eq_of_le (Nat.lt_succ_iff.1 h) with h5 | h5
    · exact hall j h5
    · exact h5 ▸ hq
   conv=>whnf
   repeat (refine aa.of ?_;conv=>whnf)
   refine ar.aj (ak.index ae (t:=27) rfl rfl rfl (by omega) (by omega) hqh.nil fun ad2 had2=>?_)
   conv=>whnf
   repeat (refine aa.of ?_;conv=>whnf)
   refine ar.aj (ak.aQ ae rfl rfl (ad:=ad2) (k:=k*9) (L:=q.flatMap gv) (m:=gv y) (.fact fun w hw=>had2 ▸ hw.2) (by simp) (by rw[← hy];exact a8 (cf:=gv) (z:=9) (fun _=>rfl) hkl) rfl ?_)
   conv=>whnf
   repeat (refine aa.of ?_;conv=>whnf)
   intro b7
   conv=>whnf
   repeat (refine aa.of ?_;conv=>whnf)
   repeat' (first
    | (rw[ha];cases a<;>conv=>whnf)
    | (rw[hb];cases b<;>conv=>whnf)
    | (rw[hc];cases c<;>conv=>whnf))
   all_goals
    first
    | (refine⟨k+1,⟨⟨hlt',hnext (hp.trans rfl)⟩,by dsimp only;omega⟩,?_,?_,ax.refl _⟩)
    | (
     refine⟨_,ax.refl _,?_⟩
     rw[aJ hlt' (hp.trans rfl)]
     rfl)
   all_goals first
    | (
     conv=>whnf
     refine⟨?_,rfl⟩
     repeat (first | exact au.nil | refine au.any ?_ | refine au.cons ?_ | refine au.eq (by rw[wrap_i64 (by omega)];rfl) ?_)
     done)
    | (
     conv=>whnf
     exact⟨⟨rfl,rfl⟩,⟨rfl,rfl⟩,trivial⟩)
 · have hie:k=i:=by
    simp only[ao,decide_eq_false_iff_not] at hlt
    omega
   subst hie
   rw[aV hall,Bool.true_and]
   conv=>whnf
   repeat (refine aa.of ?_;conv=>whnf)
   refine az.draw ae mixed rfl rfl ?_
   conv=>whnf
   repeat' (first
    | (refine dv.of ?_;conv=>whnf)
    | (refine aw.val hL (fun w hw=>hw.1) (fun v D hv=>?_);subst hv;conv=>whnf)
    | (split<;>conv=>whnf))
   all_goals refine⟨_,ax.refl _,?_⟩
   all_goals first | rfl | (congr 1;rw[Bool.eq_iff_iff];simp_all [aD,ao,aC,aB,aA,aE,and_assoc];done) | (congr 1;rw[Bool.eq_iff_iff];simp_all [aD,ao,aC,aB,aA,aE,and_assoc];omega)
def yn (l:List Pr) (q:List Mg) (j:Nat):Bool:=zW q[j]! && oM l q j
theorem jF {l:List Pr} {q:List Mg} {i:Nat}:oM l q i=true↔(∀ k,k<i→q[k]!.src=q[i]!.src→q[k]!.dst=q[i]!.dst→q[k]!.seq<q[i]!.seq)∧1≤q[i]!.seq∧q[i]!.seq≤eF l q[i]!.src q[i]!.dst:=by
 unfold oM
 rw[Bool.and_eq_true,Bool.and_eq_true,dB]
 simp only[aD,aC,decide_eq_true_eq]
 refine and_congr ⟨fun h k hk h1 h2=>?_,fun h k hk=>?_⟩ Iff.rfl
 · have:=h k hk
   unfold tL at this
   simp only[aA,aD,Bool.not_eq_true',Bool.and_eq_false_iff,beq_eq_false_iff_ne,decide_eq_false_iff_not] at this
   omega
 · have:=h k hk
   unfold tL
   simp only[aA,aD,Bool.not_eq_true',Bool.and_eq_false_iff,beq_eq_false_iff_ne,decide_eq_false_iff_not]
   by_cases h1:q[k]!.src=q[i]!.src
   · by_cases h2:q[k]!.dst=q[i]!.dst
     · have:=this h1 h2
       exact .inr (.inr (by omega))
     · exact .inr (.inl h2)
   · exact .inl h1
theorem kc (q:List Mg) (s d:Int) : ∀ i v,fC q i s d=some v→∃ k,k<i∧q[k]!.src=s∧q[k]!.dst=d∧q[k]!.seq=v∧∀ j,k<j→j<i→¬ (q[j]!.src=s∧q[j]!.dst=d)
 | 0,v,h=>by cases h
 | i+1,v,h=>by
  unfold fC at h
  split at h
  · rename_i hc
    cases h
    exact⟨i,by omega,hc.1,hc.2,rfl,fun j h1 h2=>by omega⟩
  · rename_i hc
    obtain⟨k,h1,h2,h3,h4,h5⟩:=kc q s d i v h
    refine⟨k,by omega,h2,h3,h4,fun j h6 h7=>?_⟩
    by_cases e:j=i
    · subst e
      exact hc
    · exact h5 j h6 (by omega)
theorem pD (q:List Mg) (s d:Int) : ∀ i,fC q i s d=none→∀ k,k<i→¬ (q[k]!.src=s∧q[k]!.dst=d)
 | 0,_,k,h=>by omega
 | i+1,h,k,hk=>by
  unfold fC at h
  split at h
  · cases h
  · rename_i hc
    by_cases e:k=i
    · subst e
      exact hc
    · exact pD q s d i h k (by omega)
theorem Dn (l:List Pr) (q:List Mg):allI q.length (jJ l q)=allI q.length (yn l q):=by
 rw[Bool.eq_iff_iff,dB,dB]
 constructor
 · intro h
   have key : ∀ n i,i≤n→i<q.length→yn l q i=true:=by
    intro n
    induction n with
    | zero=>
     intro i hi hil
     obtain rfl:i=0:=by omega
     have:=h 0 hil
     unfold jJ at this
     rw[Bool.and_eq_true,Bool.and_eq_true,decide_eq_true_eq,decide_eq_true_eq] at this
     unfold yn
     rw[Bool.and_eq_true,jF]
     refine⟨this.1,fun k hk=>by omega,?_,this.2.2⟩
     have h2:=this.2.1
     simp[fC] at h2 ⊢
     omega
    | succ n ih=>
     intro i hi hil
     have:=h i hil
     unfold jJ at this
     rw[Bool.and_eq_true,Bool.and_eq_true,decide_eq_true_eq,decide_eq_true_eq] at this
     obtain⟨hp,h2,h3⟩:=this
     unfold yn
     rw[Bool.and_eq_true,jF]
     refine⟨hp,?_⟩
     cases hl:fC q i q[i]!.src q[i]!.dst with
     | none=>
      rw[hl] at h2
      have h2':0<q[i]!.seq:=h2
      exact⟨fun k hk e1 e2=>absurd ⟨e1,e2⟩ (pD q _ _ i hl k hk),by omega,h3⟩
     | some v=>
      rw[hl] at h2
      obtain⟨m,hm,m1,m2,m3,m4⟩:=kc q _ _ i v hl
      have h2':v<q[i]!.seq:=h2
      have hm':=ih m (by omega) (by omega)
      unfold yn at hm'
      rw[Bool.and_eq_true,jF] at hm'
      obtain⟨-,hr,h1m,-⟩:=hm'
      refine⟨fun k hk e1 e2=>?_,by omega,h3⟩
      by_cases e:k=m
      · subst e
        omega
      · have hkm:k<m:=by
         rcases Nat.lt_or_ge k m with h | h
         · exact h
         · exact absurd ⟨e1,e2⟩ (m4 k (by omega) hk)
        have:=hr k hkm (by rw[e1,m1]) (by rw[e2,m2])
        omega
   exact fun j hj=>key j j (Nat.le_refl _) hj
 · intro h i hi
   have:=h i hi
   unfold yn at this
   rw[Bool.and_eq_true,jF] at this
   obtain⟨hp,hr,h1,h2⟩:=this
   unfold jJ
   rw[Bool.and_eq_true,Bool.and_eq_true,decide_eq_true_eq,decide_eq_true_eq]
   refine⟨hp,?_,h2⟩
   cases hl:fC q i q[i]!.src q[i]!.dst with
   | none=>
    show 0<_
    omega
   | some v=>
    obtain⟨m,hm,m1,m2,m3,m4⟩:=kc q _ _ i v hl
    have:=hr m hm m1 m2
    show v<_
    omega
theorem qS (q:List Mg) (qh:Hd) (hqh:qh.Ok q.length) (hql:q.length≤140737488355328) (l:List Pr) (h:Hd) (hh:h.Ok l.length) (hl:l.length≤140737488355328) :
 af Tryz.prog 89 [.agg ⟨[qh.v q.length,h.v l.length]⟩] (fun w=>ai w h.a (l.flatMap b_)∧ai w qh.a (q.flatMap gv)) (fun v F=>v = .bool (allI l.length (kr l)&&(allI q.length (jJ l q)&&decide (q.length≤400)))):=by
 rw[Dn]
 refine af.aG ae Tryz.func89 rfl (by decide) (n:=Tryz.f89.ntmps - 1) rfl rfl fun w0 av=>?_
 conv=>whnf
 repeat (refine aa.of ?_;conv=>whnf)
 intro b0
 conv=>whnf
 repeat (refine aa.of ?_;conv=>whnf)
 refine az.loop ae (ι:=Nat) ([3,4]++List.range' 6 47) (fun z=>z≤l.length∧∀ j,j<z→kr l j=true)
  (fun z=>[(3,.v (.int .i64 (z:Int)))]) (fun _=>[[qh.v q.length,h.v l.length]]) (fun _=>⟨fun w=>ai w h.a (l.flatMap b_)∧ai w qh.a (q.flatMap gv),[]⟩)
  (fun z=>l.length - z) 0 ⟨Nat.zero_le _,fun j h=>by omega⟩ ?_ rfl (ax.of_le ⟨by simp[Value.cells],fun w hw=>hw⟩) fun i hi=>?_
 · conv=>whnf
   repeat (first | exact au.nil | refine au.any ?_ | refine au.cons ?_)
 obtain⟨hi,hall⟩:=hi
 conv=>whnf
 repeat (refine aa.of ?_;conv=>whnf)
 refine bF.split (fun hlt=>?_) (fun hlt=>?_)
 · have hlt':i<l.length:=by
    simp only[ao,decide_eq_true_eq] at hlt
    omega
   have hok:kr l i=(decide ((0≤l[i].src∧l[i].src<32)∧(0≤l[i].dst∧l[i].dst<32)∧1≤l[i].seq∧l[i].seq≤1099511627776∧(0<i→dN l[i - 1]!.src l[i].src l[i - 1]!.dst l[i].dst<0))):=by
    unfold kr
    rw[bn hlt']
   have hnext:kr l i=true→∀ j,j<i+1→kr l j=true:=fun hs j hj=>by
    rcases Nat.lt_or_eq_of_le (Nat.lt_succ_iff.1 hj) with h5 | h5
    · exact hall j h5
    · exact h5 ▸ hs
   have hq1:=fJ l[i].src
   obtain⟨q1,heq1⟩ : ∃ qq,qq=decide (0≤l[i].src∧l[i].src<32):=⟨_,rfl⟩
   rw[← heq1] at hq1
   have hq2:=fJ l[i].dst
   obtain⟨q2,heq2⟩ : ∃ qq,qq=decide (0≤l[i].dst∧l[i].dst<32):=⟨_,rfl⟩
   rw[← heq2] at hq2
   repeat' (first
    | (refine ar.aj (ak.index ae (t:=28) rfl rfl rfl (by first | omega) (by first | omega) hh.nil fun ad had=>?_);conv=>whnf)
    | (refine ar.aj (ak.aQ ae rfl rfl (ad:=ad) (k:=i*3) (L:=l.flatMap b_) (m:=b_ l[i]) (.fact fun w hw=>had ▸ hw.1) ?adr (a8 (cf:=b_) (z:=3) (fun _=>rfl) hlt') rfl ?_);(case adr=>first | rfl);conv=>whnf))
   intro b1
   conv=>whnf
   repeat (refine aa.of ?_;conv=>whnf)
   refine az.draw ae mixed rfl rfl ?_
   conv=>whnf
   rcases Nat.eq_zero_or_pos i with h0 | h0
   · have hg:gY (i:Int) 0=false:=by simp[aB];omega
     repeat' (first
      | (rw[hg];conv=>whnf)
      | (refine aw.val hq1 (fun w hw=>trivial) (fun v D hv=>?_);subst hv;cases q1<;>conv=>whnf)
      | (refine aw.val hq2 (fun w hw=>trivial) (fun v D hv=>?_);subst hv;cases q2<;>conv=>whnf)
      | (split<;>conv=>whnf))
     all_goals first
      | (refine⟨_,ax.refl _,?_⟩;rw[aJ hlt' (by rw[hok];((try subst heq1);(try subst heq2);(try subst heq3);simp only[cond_true,cond_false,ao,aC,aB,aD,aA,aE,decide_eq_true_eq,decide_eq_false_iff_not,beq_iff_eq,bne_iff_ne,ne_eq,beq_eq_false_iff_ne,bne_eq_false_iff_eq,Bool.not_eq_true,Bool.not_eq_false,Bool.and_true,Bool.true_and,Bool.and_false,Bool.false_and,Bool.or_true,Bool.or_false,Bool.true_or,Bool.false_or,Bool.not_eq_true',Bool.not_eq_false',Bool.not_true,Bool.not_false] at *;first | omega | (simp_all;omega)))];first | done | rfl)
      | (
       refine⟨i+1,⟨⟨hlt',hnext (by rw[hok];((try subst heq1);(try subst heq2);(try subst heq3);simp only[cond_true,cond_false,ao,aC,aB,aD,aA,aE,decide_eq_true_eq,decide_eq_false_iff_not,beq_iff_eq,bne_iff_ne,ne_eq,beq_eq_false_iff_ne,bne_eq_false_iff_eq,Bool.not_eq_true,Bool.not_eq_false,Bool.and_true,Bool.true_and,Bool.and_false,Bool.false_and,Bool.or_true,Bool.or_false,Bool.true_or,Bool.false_or,Bool.not_eq_true',Bool.not_eq_false',Bool.not_true,Bool.not_false] at *;first | (simp_all;done)))⟩,by dsimp only;omega⟩,?_,?_,ax.refl _⟩;(conv=>whnf);refine⟨?_,rfl⟩;repeat (first | exact au.nil | refine au.any ?_ | refine au.cons ?_ | refine au.eq (by rw[wrap_i64 (by omega)];rfl) ?_)
       (conv=>whnf);exact⟨⟨rfl,rfl⟩,trivial⟩)
   · have hg:gY (i:Int) 0=true:=by simp[aB];omega
     have hj:i - 1<l.length:=by omega
     have hw1:IntKind.i64.wrap ((i:Int) - 1)=((i - 1:Nat):Int):=by
      rw[wrap_i64 (by omega)]
      omega
     try rw[bn hj] at hok
     have hq3:=pc l[i - 1] l[i]
     obtain⟨q3,heq3⟩ : ∃ qq,qq=decide (dN l[i - 1].src l[i].src l[i - 1].dst l[i].dst<0):=⟨_,rfl⟩
     rw[← heq3] at hq3
     repeat' (first
      | (refine dv.of ?_;conv=>whnf)
      | (rw[hg];conv=>whnf)
      | (refine aw.val hq1 (fun w hw=>trivial) (fun v D hv=>?_);subst hv;cases q1<;>conv=>whnf)
      | (refine aw.val hq2 (fun w hw=>trivial) (fun v D hv=>?_);subst hv;cases q2<;>conv=>whnf)
      | (refine ak.index ae (t:=28) rfl rfl rfl (by first | omega) (by first | omega) hh.nil fun ad had=>?_;conv=>whnf)
      | (refine ak.aQ ae rfl rfl (ad:=ad) (k:=(i - 1)*3) (L:=l.flatMap b_) (m:=b_ l[i - 1]) (.fact fun w hw=>had ▸ hw.1) ?adr (a8 (cf:=b_) (z:=3) (fun _=>rfl) hj) rfl ?_;(case adr=>first | rfl | (rw[hw1];rfl));conv=>whnf)
      | (refine aw.val hq3 (fun w hw=>trivial) (fun v D hv=>?_);subst hv;cases q3<;>conv=>whnf)
      | (split<;>conv=>whnf))
     all_goals first
      | (refine⟨_,ax.refl _,?_⟩;rw[aJ hlt' (by rw[hok];((try subst heq1);(try subst heq2);(try subst heq3);simp only[cond_true,cond_false,ao,aC,aB,aD,aA,aE,decide_eq_true_eq,decide_eq_false_iff_not,beq_iff_eq,bne_iff_ne,ne_eq,beq_eq_false_iff_ne,bne_eq_false_iff_eq,Bool.not_eq_true,Bool.not_eq_false,Bool.and_true,Bool.true_and,Bool.and_false,Bool.false_and,Bool.or_true,Bool.or_false,Bool.true_or,Bool.false_or,Bool.not_eq_true',Bool.not_eq_false',Bool.not_true,Bool.not_false] at *;first | omega | (simp_all;done) | (simp_all;omega)))];first | done | rfl)
      | (
       refine⟨i+1,⟨⟨hlt',hnext (by rw[hok];((try subst heq1);(try subst heq2);(try subst heq3);simp only[cond_true,cond_false,ao,aC,aB,aD,aA,aE,decide_eq_true_eq,decide_eq_false_iff_not,beq_iff_eq,bne_iff_ne,ne_eq,beq_eq_false_iff_ne,bne_eq_false_iff_eq,Bool.not_eq_true,Bool.not_eq_false,Bool.and_true,Bool.true_and,Bool.and_false,Bool.false_and,Bool.or_true,Bool.or_false,Bool.true_or,Bool.false_or,Bool.not_eq_true',Bool.not_eq_false',Bool.not_true,Bool.not_false] at *;first | (simp_all;done)))⟩,by dsimp only;omega⟩,?_,?_,ax.refl _⟩;(conv=>whnf);refine⟨?_,rfl⟩;repeat (first | exact au.nil | refine au.any ?_ | refine au.cons ?_ | refine au.eq (by rw[wrap_i64 (by omega)];rfl) ?_)
       (conv=>whnf);exact⟨⟨rfl,rfl⟩,trivial⟩)
 · have hie:i=l.length:=by
    simp only[ao,decide_eq_false_iff_not] at hlt
    omega
   subst hie
   conv=>whnf
   repeat (refine aa.of ?_;conv=>whnf)
   rw[aV hall,Bool.true_and]
   clear hall hi
   conv=>whnf
   repeat (refine aa.of ?_;conv=>whnf)
   refine bF.split (fun hm=>?_) (fun hm=>?_)
   · conv=>whnf
     repeat (refine aa.of ?_;conv=>whnf)
     have : ¬ q.length≤400:=by
      simp only[aB,decide_eq_true_eq] at hm
      omega
     exact⟨_,ax.refl _,by rw[decide_eq_false this,Bool.and_false]⟩
   have hm':q.length≤400:=by
    simp only[aB,decide_eq_false_iff_not] at hm
    omega
   conv=>whnf
   repeat (refine aa.of ?_;conv=>whnf)
   refine az.loop ae (ι:=Nat) (List.range' 5 1++List.range' 57 20) (fun z=>z≤q.length∧∀ j,j<z→yn l q j=true)
    (fun z=>[(5,.v (.int .i64 (z:Int)))]) (fun _=>[[qh.v q.length,h.v l.length]]) (fun _=>⟨fun w=>ai w h.a (l.flatMap b_)∧ai w qh.a (q.flatMap gv),[]⟩)
    (fun z=>q.length - z) 0 ⟨Nat.zero_le _,fun j h=>by omega⟩ ?_ rfl (ax.of_le ⟨by simp[Value.cells],fun w hw=>hw⟩) fun i hi=>?_
   · conv=>whnf
     repeat (first | exact au.nil | refine au.any ?_ | refine au.cons ?_)
   obtain⟨hi,hall⟩:=hi
   conv=>whnf
   repeat (refine aa.of ?_;conv=>whnf)
   refine bF.split (fun hlt=>?_) (fun hlt=>?_)
   · have hlt':i<q.length:=by
      simp only[ao,decide_eq_true_eq] at hlt
      omega
     have hok:yn l q i=(zW q[i]&&oM l q i):=by
      unfold yn
      rw[bn hlt']
     have hnext:yn l q i=true→∀ j,j<i+1→yn l q j=true:=fun hs j hj=>by
      rcases Nat.lt_or_eq_of_le (Nat.lt_succ_iff.1 hj) with h5 | h5
      · exact hall j h5
      · exact h5 ▸ hs
     have hq3:=oH q[i]
     obtain⟨q3,heq3⟩ : ∃ qq,qq=zW q[i]:=⟨_,rfl⟩
     rw[← heq3] at hq3 hok
     have hq4:=ph q qh hqh hql l h hh hl i hlt'
     obtain⟨q4,heq4⟩ : ∃ qq,qq=oM l q i:=⟨_,rfl⟩
     rw[← heq4] at hq4 hok
     conv=>whnf
     repeat (refine aa.of ?_;conv=>whnf)
     repeat' (first
      | (refine aw.val hq3 (fun w hw=>trivial) (fun v D hv=>?_);subst hv;cases q3<;>conv=>whnf)
      | (refine aw.val hq4 (fun w hw=>hw) (fun v D hv=>?_);subst hv;cases q4<;>conv=>whnf)
      | (refine ar.aj (ak.index ae (t:=27) rfl rfl rfl (by first | omega) (by first | omega) hqh.nil fun ad had=>?_);conv=>whnf)
      | (refine ar.aj (ak.aQ ae rfl rfl (ad:=ad) (k:=i*9) (L:=q.flatMap gv) (m:=gv q[i]) (.fact fun w hw=>had ▸ hw.2) ?adr (a8 (cf:=gv) (z:=9) (fun _=>rfl) hlt') rfl ?_);(case adr=>first | rfl);conv=>whnf))
     · exact⟨_,ax.refl _,by rw[aJ hlt' (by rw[hok];rfl)];rfl⟩
     · exact⟨_,ax.refl _,by rw[aJ hlt' (by rw[hok];rfl)];rfl⟩
     · refine⟨i+1,⟨⟨hlt',hnext (by rw[hok];rfl)⟩,by dsimp only;omega⟩,?_,?_,ax.refl _⟩
       · conv=>whnf
         refine⟨?_,rfl⟩
         repeat (first | exact au.nil | refine au.any ?_ | refine au.cons ?_ | refine au.eq (by rw[wrap_i64 (by omega)];rfl) ?_)
       · conv=>whnf
         exact⟨⟨rfl,rfl⟩,trivial⟩
   · have hie:i=q.length:=by
      simp only[ao,decide_eq_false_iff_not] at hlt
      omega
     subst hie
     conv=>whnf
     repeat (refine aa.of ?_;conv=>whnf)
     exact⟨_,ax.refl _,by rw[aV hall,show decide (q.length≤400)=true from decide_eq_true (by omega)];rfl⟩
theorem ej (t:Int):af Tryz.prog 217 [.int .i64 t,.int .i64 0] (fun _=>True) (fun v F=>v = .bool (cS t 0)):=by
 refine af.aG ae Tryz.func217 rfl (by decide) (n:=Tryz.f217.ntmps - 2) rfl rfl fun w0 av=>?_
 conv=>whnf
 repeat (refine aa.of ?_;conv=>whnf)
 have e0:cS t 0=(dL t 2&&aR (Int.tmod t 2) 0):=by
  unfold cS
  rw[if_pos (by simp[aA])]
  rfl
 rw[e0]
 exact⟨_,ax.refl _,by rw[wrap_i64 (by omega)];rfl⟩
theorem iU (t:Int):af Tryz.prog 217 [.int .i64 t,.int .i64 1] (fun _=>True) (fun v F=>v = .bool (cS t 1)):=by
 refine af.aG ae Tryz.func217 rfl (by decide) (n:=Tryz.f217.ntmps - 2) rfl rfl fun w0 av=>?_
 conv=>whnf
 repeat (refine aa.of ?_;conv=>whnf)
 have e0:cS t 1=(dL t 1&&aR (Int.tmod t 2) 1):=by
  unfold cS
  rw[if_neg (by simp[aA])]
  rfl
 rw[e0]
 exact⟨_,ax.refl _,by rw[wrap_i64 (by omega)];rfl⟩
theorem qw (h:Hd) (n:Nat):af Tryz.prog 243 [h.v n,.slice none 0 0] (fun _=>True) (fun v F=>v = .bool (decide (n=0))):=by
 refine af.aG ae Tryz.func243 rfl (by decide) (n:=Tryz.f243.ntmps - 2) rfl rfl fun w0 av=>?_
 conv=>whnf
 repeat (refine aa.of ?_;conv=>whnf)
 rcases Nat.eq_zero_or_pos n with h0 | h0
 · subst h0
   refine bF.no (by simp[aE]) ?_
   conv=>whnf
   repeat (refine aa.of ?_;conv=>whnf)
   refine az.loop ae (ι:=Unit) (List.range' 5 21) (fun _=>True) (fun _=>[(5,.v (.int .i64 0))]) (fun _=>[]) (fun _=>⟨fun w=>True,[]⟩) (fun _=>0) () trivial ?_ rfl (ax.of_le ⟨by simp[Value.cells],fun w hw=>hw⟩) fun i hi=>?_
   · conv=>whnf
     repeat (first | exact au.nil | refine au.any ?_ | refine au.cons ?_)
   conv=>whnf
   repeat (refine aa.of ?_;conv=>whnf)
   refine bF.no (by simp[ao]) ?_
   conv=>whnf
   repeat (refine aa.of ?_;conv=>whnf)
   exact⟨_,ax.refl _,rfl⟩
 · refine bF.yes (by simp[aE];omega) ?_
   conv=>whnf
   repeat (refine aa.of ?_;conv=>whnf)
   exact⟨_,ax.refl _,by rw[decide_eq_false (by omega)]⟩
theorem iD (tag op place:Int) (h:Hd) (n:Nat):af Tryz.prog 218 [.agg ⟨[.int .i64 tag,.int .i64 op,.int .i64 place,h.v n]⟩,.agg ⟨[.int .i64 0,.int .i64 0,.int .i64 0,.slice none 0 0]⟩] (fun _=>True) (fun v F=>v = .bool (aR tag 0&&(aR op 0&&(aR place 0&&decide (n=0))))):=by
 have h1:=qw h n
 generalize decide (n=0)=q1 at *
 refine af.aG ae Tryz.func218 rfl (by decide) (n:=Tryz.f218.ntmps - 2) rfl rfl fun w0 av=>?_
 conv=>whnf
 repeat (refine aa.of ?_;conv=>whnf)
 intro b2
 conv=>whnf
 repeat (refine aa.of ?_;conv=>whnf)
 intro b3
 conv=>whnf
 repeat (refine aa.of ?_;conv=>whnf)
 repeat' (first
  | (refine aw.val h1 (fun w hw=>trivial) (fun v D hv=>?_);subst hv;conv=>whnf)
  | (split<;>conv=>whnf))
 all_goals refine⟨_,ax.refl _,?_⟩
 all_goals first | rfl | (congr 1;rw[Bool.eq_iff_iff];simp_all [aD,ao,aC,aB,aA,aE,and_assoc];done)
theorem rS (x:lZ):af Tryz.prog 145 [.agg ⟨cE x⟩,.int .i64 0,.int .i64 3] (fun _=>True) (fun v F=>v = .bool ((aR x.ltag 0||cS x.ltag 0)&&(if x.opn then cS x.tag 0&&(dL x.tag x.ltag&&(dL x.left 1&&eW x.left 3)) else aR x.left 0&&(aR x.tag 0&&(aR x.op 0&&(aR x.place 0&&decide (x.cn=0))))))):=by
 have h1:=ej x.ltag
 have h2:=ej x.tag
 have h3:=iD x.tag x.op x.place x.ch x.cn
 generalize cS x.ltag 0=q1 at *
 generalize cS x.tag 0=q2 at *
 obtain⟨q3,hq3⟩ : ∃ q,(aR x.tag 0&&(aR x.op 0&&(aR x.place 0&&decide (x.cn=0))))=q:=⟨_,rfl⟩
 rw[hq3] at h3 ⊢
 obtain⟨o,ho⟩ : ∃ o,x.opn=o:=⟨_,rfl⟩
 rw[ho]
 have hd:cE x = [.bool o,.int .i64 x.tag,.int .i64 x.op,.int .i64 x.place,x.ch.v x.cn,.int .i64 x.left,.int .i64 x.ltag,.int .i64 x.lans,x.lh.v x.ln]:=by rw[← ho];rfl
 rw[hd]
 refine af.aG ae Tryz.func145 rfl (by decide) (n:=Tryz.f145.ntmps - 3) rfl rfl fun w0 av=>?_
 conv=>whnf
 repeat (refine aa.of ?_;conv=>whnf)
 intro b3
 conv=>whnf
 repeat (refine aa.of ?_;conv=>whnf)
 cases o
 · repeat' (first
    | (refine aa.of ?_;conv=>whnf)
    | (refine aw.val h1 (fun w hw=>trivial) (fun v D hv=>?_);subst hv;cases q1<;>conv=>whnf)
    | (refine aw.val h3 (fun w hw=>trivial) (fun v D hv=>?_);subst hv;cases q3<;>conv=>whnf)
    | (split<;>conv=>whnf))
   all_goals refine⟨_,ax.refl _,?_⟩
   all_goals first | rfl | (congr 1;rw[Bool.eq_iff_iff];simp_all [aD,ao,aC,aB,aA,aE,and_assoc];done)
 · repeat' (first
    | (refine aa.of ?_;conv=>whnf)
    | (refine aw.val h1 (fun w hw=>trivial) (fun v D hv=>?_);subst hv;cases q1<;>conv=>whnf)
    | (refine aw.val h2 (fun w hw=>trivial) (fun v D hv=>?_);subst hv;cases q2<;>conv=>whnf)
    | (split<;>conv=>whnf))
   all_goals refine⟨_,ax.refl _,?_⟩
   all_goals first | rfl | (congr 1;rw[Bool.eq_iff_iff];simp_all [aD,ao,aC,aB,aA,aE,and_assoc];done)
theorem kA (x:lZ):af Tryz.prog 145 [.agg ⟨cE x⟩,.int .i64 0,.int .i64 1] (fun _=>True) (fun v F=>v = .bool ((aR x.ltag 0||cS x.ltag 0)&&(if x.opn then cS x.tag 0&&(dL x.tag x.ltag&&(dL x.left 1&&eW x.left 1)) else aR x.left 0&&(aR x.tag 0&&(aR x.op 0&&(aR x.place 0&&decide (x.cn=0))))))):=by
 have h1:=ej x.ltag
 have h2:=ej x.tag
 have h3:=iD x.tag x.op x.place x.ch x.cn
 generalize cS x.ltag 0=q1 at *
 generalize cS x.tag 0=q2 at *
 obtain⟨q3,hq3⟩ : ∃ q,(aR x.tag 0&&(aR x.op 0&&(aR x.place 0&&decide (x.cn=0))))=q:=⟨_,rfl⟩
 rw[hq3] at h3 ⊢
 obtain⟨o,ho⟩ : ∃ o,x.opn=o:=⟨_,rfl⟩
 rw[ho]
 have hd:cE x = [.bool o,.int .i64 x.tag,.int .i64 x.op,.int .i64 x.place,x.ch.v x.cn,.int .i64 x.left,.int .i64 x.ltag,.int .i64 x.lans,x.lh.v x.ln]:=by rw[← ho];rfl
 rw[hd]
 refine af.aG ae Tryz.func145 rfl (by decide) (n:=Tryz.f145.ntmps - 3) rfl rfl fun w0 av=>?_
 conv=>whnf
 repeat (refine aa.of ?_;conv=>whnf)
 intro b3
 conv=>whnf
 repeat (refine aa.of ?_;conv=>whnf)
 cases o
 · repeat' (first
    | (refine aa.of ?_;conv=>whnf)
    | (refine aw.val h1 (fun w hw=>trivial) (fun v D hv=>?_);subst hv;cases q1<;>conv=>whnf)
    | (refine aw.val h3 (fun w hw=>trivial) (fun v D hv=>?_);subst hv;cases q3<;>conv=>whnf)
    | (split<;>conv=>whnf))
   all_goals refine⟨_,ax.refl _,?_⟩
   all_goals first | rfl | (congr 1;rw[Bool.eq_iff_iff];simp_all [aD,ao,aC,aB,aA,aE,and_assoc];done)
 · repeat' (first
    | (refine aa.of ?_;conv=>whnf)
    | (refine aw.val h1 (fun w hw=>trivial) (fun v D hv=>?_);subst hv;cases q1<;>conv=>whnf)
    | (refine aw.val h2 (fun w hw=>trivial) (fun v D hv=>?_);subst hv;cases q2<;>conv=>whnf)
    | (split<;>conv=>whnf))
   all_goals refine⟨_,ax.refl _,?_⟩
   all_goals first | rfl | (congr 1;rw[Bool.eq_iff_iff];simp_all [aD,ao,aC,aB,aA,aE,and_assoc];done)
theorem kO (x:lZ):af Tryz.prog 145 [.agg ⟨cE x⟩,.int .i64 1,.int .i64 1] (fun _=>True) (fun v F=>v = .bool ((aR x.ltag 0||cS x.ltag 1)&&(if x.opn then cS x.tag 1&&(dL x.tag x.ltag&&(dL x.left 1&&eW x.left 1)) else aR x.left 0&&(aR x.tag 0&&(aR x.op 0&&(aR x.place 0&&decide (x.cn=0))))))):=by
 have h1:=iU x.ltag
 have h2:=iU x.tag
 have h3:=iD x.tag x.op x.place x.ch x.cn
 generalize cS x.ltag 1=q1 at *
 generalize cS x.tag 1=q2 at *
 obtain⟨q3,hq3⟩ : ∃ q,(aR x.tag 0&&(aR x.op 0&&(aR x.place 0&&decide (x.cn=0))))=q:=⟨_,rfl⟩
 rw[hq3] at h3 ⊢
 obtain⟨o,ho⟩ : ∃ o,x.opn=o:=⟨_,rfl⟩
 rw[ho]
 have hd:cE x = [.bool o,.int .i64 x.tag,.int .i64 x.op,.int .i64 x.place,x.ch.v x.cn,.int .i64 x.left,.int .i64 x.ltag,.int .i64 x.lans,x.lh.v x.ln]:=by rw[← ho];rfl
 rw[hd]
 refine af.aG ae Tryz.func145 rfl (by decide) (n:=Tryz.f145.ntmps - 3) rfl rfl fun w0 av=>?_
 conv=>whnf
 repeat (refine aa.of ?_;conv=>whnf)
 intro b3
 conv=>whnf
 repeat (refine aa.of ?_;conv=>whnf)
 cases o
 · repeat' (first
    | (refine aa.of ?_;conv=>whnf)
    | (refine aw.val h1 (fun w hw=>trivial) (fun v D hv=>?_);subst hv;cases q1<;>conv=>whnf)
    | (refine aw.val h3 (fun w hw=>trivial) (fun v D hv=>?_);subst hv;cases q3<;>conv=>whnf)
    | (split<;>conv=>whnf))
   all_goals refine⟨_,ax.refl _,?_⟩
   all_goals first | rfl | (congr 1;rw[Bool.eq_iff_iff];simp_all [aD,ao,aC,aB,aA,aE,and_assoc];done)
 · repeat' (first
    | (refine aa.of ?_;conv=>whnf)
    | (refine aw.val h1 (fun w hw=>trivial) (fun v D hv=>?_);subst hv;cases q1<;>conv=>whnf)
    | (refine aw.val h2 (fun w hw=>trivial) (fun v D hv=>?_);subst hv;cases q2<;>conv=>whnf)
    | (split<;>conv=>whnf))
   all_goals refine⟨_,ax.refl _,?_⟩
   all_goals first | rfl | (congr 1;rw[Bool.eq_iff_iff];simp_all [aD,ao,aC,aB,aA,aE,and_assoc];done)
theorem BI (t:Int):cS t 0=iZ t:=by
 unfold cS
 rw[if_pos (by simp[aA])]
theorem BE (T:Int→Bool) (x:lZ):ed T true x=((aR x.ltag 0||T x.ltag)&&(if x.opn then T x.tag&&(dL x.tag x.ltag&&(dL x.left 1&&eW x.left 3)) else aR x.left 0&&(aR x.tag 0&&(aR x.op 0&&(aR x.place 0&&decide (x.cn=0)))))):=by
 unfold ed
 simp
theorem tf (T:Int→Bool) (x:lZ):ed T false x=((aR x.ltag 0||T x.ltag)&&(if x.opn then T x.tag&&dL x.tag x.ltag else aR x.tag 0&&(aR x.op 0&&(aR x.place 0&&decide (x.cn=0))))):=by
 unfold ed
 simp
theorem ui (x:lZ):af Tryz.prog 145 [.agg ⟨cE x⟩,.int .i64 0,.int .i64 3] (fun _=>True) (fun v F=>v = .bool (ed iZ true x)):=by
 have h:=rS x
 rw[BI,BI,← BE iZ x] at h
 exact h
theorem lY (x:lZ) (hl:x.left=0):af Tryz.prog 147 [.agg ⟨cE x⟩,.int .i64 0] (fun _=>True) (fun v F=>v = .bool (ed (cS · 0) false x)):=by
 rw[tf]
 obtain⟨o,tag,cop,place,ch,cn,left,ltag,lans,lh,ln⟩:=x
 dsimp only at hl ⊢
 subst hl
 cases o
 · have h0:=kA ⟨false,tag,cop,place,ch,cn,0,ltag,lans,lh,ln⟩
   dsimp only at h0
   rw[if_neg (by decide),show aR (0:Int) 0=true by simp[aA],Bool.true_and] at h0
   rw[if_neg (by decide)]
   generalize ((aR ltag 0||cS ltag 0)&&(aR tag 0&&(aR cop 0&&(aR place 0&&decide (cn=0)))))=q at *
   refine af.aG ae Tryz.func147 rfl (by decide) (n:=Tryz.f147.ntmps - 2) rfl rfl fun w0 av=>?_
   conv=>whnf
   repeat (refine aa.of ?_;conv=>whnf)
   intro b2
   conv=>whnf
   repeat (refine aa.of ?_;conv=>whnf)
   refine aw.val h0 (fun w hw=>trivial) (fun v D hv=>?_)
   subst hv
   conv=>whnf
   repeat (refine aa.of ?_;conv=>whnf)
   exact⟨_,ax.refl _,rfl⟩
 · have h0:=kA ⟨true,tag,cop,place,ch,cn,1,ltag,lans,lh,ln⟩
   dsimp only at h0
   rw[if_pos rfl,show(dL (1:Int) 1&&eW (1:Int) 1)=true by simp[aD,aC],Bool.and_true] at h0
   rw[if_pos rfl]
   generalize ((aR ltag 0||cS ltag 0)&&(cS tag 0&&dL tag ltag))=q at *
   refine af.aG ae Tryz.func147 rfl (by decide) (n:=Tryz.f147.ntmps - 2) rfl rfl fun w0 av=>?_
   conv=>whnf
   repeat (refine aa.of ?_;conv=>whnf)
   intro b2
   conv=>whnf
   repeat (refine aa.of ?_;conv=>whnf)
   refine aw.val h0 (fun w hw=>trivial) (fun v D hv=>?_)
   subst hv
   conv=>whnf
   repeat (refine aa.of ?_;conv=>whnf)
   exact⟨_,ax.refl _,rfl⟩
theorem mu (x:lZ) (hl:x.left=0):af Tryz.prog 147 [.agg ⟨cE x⟩,.int .i64 1] (fun _=>True) (fun v F=>v = .bool (ed (cS · 1) false x)):=by
 rw[tf]
 obtain⟨o,tag,cop,place,ch,cn,left,ltag,lans,lh,ln⟩:=x
 dsimp only at hl ⊢
 subst hl
 cases o
 · have h0:=kO ⟨false,tag,cop,place,ch,cn,0,ltag,lans,lh,ln⟩
   dsimp only at h0
   rw[if_neg (by decide),show aR (0:Int) 0=true by simp[aA],Bool.true_and] at h0
   rw[if_neg (by decide)]
   generalize ((aR ltag 0||cS ltag 1)&&(aR tag 0&&(aR cop 0&&(aR place 0&&decide (cn=0)))))=q at *
   refine af.aG ae Tryz.func147 rfl (by decide) (n:=Tryz.f147.ntmps - 2) rfl rfl fun w0 av=>?_
   conv=>whnf
   repeat (refine aa.of ?_;conv=>whnf)
   intro b2
   conv=>whnf
   repeat (refine aa.of ?_;conv=>whnf)
   refine aw.val h0 (fun w hw=>trivial) (fun v D hv=>?_)
   subst hv
   conv=>whnf
   repeat (refine aa.of ?_;conv=>whnf)
   exact⟨_,ax.refl _,rfl⟩
 · have h0:=kO ⟨true,tag,cop,place,ch,cn,1,ltag,lans,lh,ln⟩
   dsimp only at h0
   rw[if_pos rfl,show(dL (1:Int) 1&&eW (1:Int) 1)=true by simp[aD,aC],Bool.and_true] at h0
   rw[if_pos rfl]
   generalize ((aR ltag 0||cS ltag 1)&&(cS tag 1&&dL tag ltag))=q at *
   refine af.aG ae Tryz.func147 rfl (by decide) (n:=Tryz.f147.ntmps - 2) rfl rfl fun w0 av=>?_
   conv=>whnf
   repeat (refine aa.of ?_;conv=>whnf)
   intro b2
   conv=>whnf
   repeat (refine aa.of ?_;conv=>whnf)
   refine aw.val h0 (fun w hw=>trivial) (fun v D hv=>?_)
   subst hv
   conv=>whnf
   repeat (refine aa.of ?_;conv=>whnf)
   exact⟨_,ax.refl _,rfl⟩
theorem qx (l:List Bs) (h:Hd) (hh:h.Ok l.length) (hl:l.length≤140737488355328) (x:lZ) :
 af Tryz.prog 82 [.agg ⟨h.v l.length::cE x⟩] (fun w=>ai w h.a (l.map du)) (fun v F=>v = .bool (dy 160 l&&ed iZ true x)):=by
 have hc:=ui x
 generalize ed iZ true x=qc at *
 rw[ud,Bool.and_assoc]
 refine af.aG ae Tryz.func82 rfl (by decide) (n:=Tryz.f82.ntmps - 1) rfl rfl fun w0 av=>?_
 conv=>whnf
 repeat (refine aa.of ?_;conv=>whnf)
 intro b0
 conv=>whnf
 repeat (refine aa.of ?_;conv=>whnf)
 refine az.loop ae (ι:=Nat) (List.range' 3 24) (fun x=>x≤l.length∧∀ j,j<x→mW l j=true)
  (fun x=>[(3,.v (.int .i64 (x:Int)))]) (fun _=>[h.v l.length::cE x]) (fun _=>⟨fun w=>ai w h.a (l.map du),[]⟩)
  (fun x=>l.length - x) 0 ⟨Nat.zero_le _,fun j h=>by omega⟩ ?_ rfl (ax.of_le ⟨by simp[Value.cells],fun w hw=>hw⟩) fun i hi=>?_
 · conv=>whnf
   repeat (first | exact au.nil | refine au.any ?_ | refine au.cons ?_)
 obtain⟨hi,hall⟩:=hi
 conv=>whnf
 repeat (refine aa.of ?_;conv=>whnf)
 refine bF.split (fun hlt=>?_) (fun hlt=>?_)
 · have hlt':i<l.length:=by
    simp only[ao,decide_eq_true_eq] at hlt
    omega
   have hok:mW l i=(!fw (l[i].n:Int) 128):=by
    unfold mW
    rw[bn hlt']
   have hnext:mW l i=true→∀ j,j<i+1→mW l j=true:=fun hs j hj=>by
    rcases Nat.lt_or_eq_of_le (Nat.lt_succ_iff.1 hj) with h5 | h5
    · exact hall j h5
    · exact h5 ▸ hs
   conv=>whnf
   repeat (refine aa.of ?_;conv=>whnf)
   repeat' (first
    | (refine ar.aj (ak.index ae (t:=40) rfl rfl rfl (by first | omega) (by first | omega) hh.nil fun ad had=>?_);conv=>whnf)
    | (refine ar.aj (ak.aH ae rfl rfl (ad:=ad) (k:=i) (L:=l.map du) (v:=du l[i]) (.fact fun w hw=>had ▸ hw) ?adr (by rw[List.getElem?_map,List.getElem?_eq_getElem hlt'];rfl) ?_);(case adr=>intro hs;first | (rw[Nat.mul_one];rfl) | rfl);conv=>whnf)
    | (split<;>conv=>whnf))
   all_goals first
    | (refine⟨_,ax.refl _,?_⟩;rw[aJ hlt' (by rw[hok];((try subst heq1);(try subst heq2);(try subst heq3);simp only[cond_true,cond_false,ao,aC,aB,aD,aA,aE,decide_eq_true_eq,decide_eq_false_iff_not,beq_iff_eq,bne_iff_ne,ne_eq,beq_eq_false_iff_ne,bne_eq_false_iff_eq,Bool.not_eq_true,Bool.not_eq_false,Bool.and_true,Bool.true_and,Bool.and_false,Bool.false_and,Bool.or_true,Bool.or_false,Bool.true_or,Bool.false_or,Bool.not_eq_true',Bool.not_eq_false',Bool.not_true,Bool.not_false] at *;first | omega))];first | done | rfl)
    | (
     refine⟨i+1,⟨⟨hlt',hnext (by rw[hok];((try subst heq1);(try subst heq2);(try subst heq3);simp only[cond_true,cond_false,ao,aC,aB,aD,aA,aE,decide_eq_true_eq,decide_eq_false_iff_not,beq_iff_eq,bne_iff_ne,ne_eq,beq_eq_false_iff_ne,bne_eq_false_iff_eq,Bool.not_eq_true,Bool.not_eq_false,Bool.and_true,Bool.true_and,Bool.and_false,Bool.false_and,Bool.or_true,Bool.or_false,Bool.true_or,Bool.false_or,Bool.not_eq_true',Bool.not_eq_false',Bool.not_true,Bool.not_false] at *;first | omega))⟩,by dsimp only;omega⟩,?_,?_,ax.refl _⟩;(conv=>whnf);refine⟨?_,rfl⟩;repeat (first | exact au.nil | refine au.any ?_ | refine au.cons ?_ | refine au.eq (by rw[wrap_i64 (by omega)];rfl) ?_)
     (conv=>whnf);exact⟨⟨rfl,rfl⟩,trivial⟩)
 · have hie:i=l.length:=by
    simp only[ao,decide_eq_false_iff_not] at hlt
    omega
   subst hie
   conv=>whnf
   repeat (refine aa.of ?_;conv=>whnf)
   rw[aV hall,Bool.true_and]
   repeat' (first
    | (refine aw.val hc (fun w hw=>trivial) (fun v D hv=>?_);subst hv;conv=>whnf)
    | (split<;>conv=>whnf))
   all_goals refine⟨_,ax.refl _,?_⟩
   all_goals first | rfl | (congr 1;rw[Bool.eq_iff_iff];simp_all [aD,ao,aC,aB,aA,aE,and_assoc];omega)
theorem qn (x:Be) (h0:x.co.left=0) (h1:x.ci.left=0):af Tryz.prog 84 [.agg ⟨dZ x⟩] (fun _=>True) (fun v F=>v = .bool (oW x)):=by
 have hq1:=lY x.co h0
 have hq2:=mu x.ci h1
 unfold oW
 generalize ed (cS · 0) false x.co=q1 at *
 generalize ed (cS · 1) false x.ci=q2 at *
 refine af.aG ae Tryz.func84 rfl (by decide) (n:=Tryz.f84.ntmps - 1) rfl rfl fun w0 av=>?_
 conv=>whnf
 repeat (refine aa.of ?_;conv=>whnf)
 intro b1
 conv=>whnf
 repeat (refine aa.of ?_;conv=>whnf)
 repeat' (first
  | (refine aw.val hq1 (fun w hw=>trivial) (fun v D hv=>?_);subst hv;cases q1<;>conv=>whnf)
  | (refine aw.val hq2 (fun w hw=>trivial) (fun v D hv=>?_);subst hv;conv=>whnf)
  | (split<;>conv=>whnf))
 all_goals refine⟨_,ax.refl _,?_⟩
 all_goals first | rfl | (congr 1;rw[Bool.eq_iff_iff];simp_all [aD,ao,aC,aB,aA,aE,and_assoc];done) | (congr 1;rw[Bool.eq_iff_iff];simp_all [aD,ao,aC,aB,aA,aE,and_assoc];omega) | (congr 1;rw[Bool.eq_iff_iff];(try cases q1)<;>(try cases q2)<;>(try cases q3)<;>(try simp_all [aD,ao,aC,aB,aA,aE,and_assoc])<;>(try omega);done)
theorem jY (h:Hd) (n:Nat):af Tryz.prog 146 [h.v n] (fun _=>True) (fun v F=>v = .bool (decide (1≤n∧n≤128))):=by
 refine af.aG ae Tryz.func146 rfl (by decide) (n:=Tryz.f146.ntmps - 1) rfl rfl fun w0 av=>?_
 conv=>whnf
 repeat (refine aa.of ?_;conv=>whnf)
 repeat' (first
  | (refine cj.mk ?_ ?_;(focus (first | exact ax.refl _ | exact ax.left _ _ | exact ax.of_le ⟨List.sublist_append_left _ _,fun w h=>h⟩ | exact ax.of_le ⟨List.Sublist.refl _,fun w h=>h.1⟩));conv=>whnf))
 all_goals refine⟨_,ax.refl _,?_⟩
 all_goals first | rfl | (congr 1;rw[Bool.eq_iff_iff];simp_all [aD,ao,aC,aB,aA,aE,and_assoc];omega)
def vX (l:List Bs) (j:Nat):Bool:=decide (1≤l[j]!.n∧l[j]!.n≤128)
theorem DG (l:List Bs):(!(l.any fun b=>!decide (1≤b.n∧b.n≤128)))=allI l.length (vX l):=by
 rw[← om l (fun b=>!decide (1≤b.n∧b.n≤128))]
 congr 1
 funext j
 unfold vX
 rw[Bool.not_not]
theorem qe (x:zY) (hfh:x.fh.Ok x.fly.length) (hfl:x.fly.length≤140737488355328) (hwh:x.wh.Ok x.wait.length) (hwl:x.wait.length≤140737488355328) (h0:x.co.left=0) (h1:x.ci.left=0) :
 af Tryz.prog 83 [.agg ⟨dO x⟩] (fun w=>ai w x.fh.a (x.fly.flatMap bX)∧ai w x.wh.a (x.wait.map du)) (fun v F=>v = .bool (pM x)):=by
 have hc1:=lY x.co h0
 have hc2:=mu x.ci h1
 unfold pM
 rw[DG]
 generalize ed (cS · 0) false x.co=c1 at *
 generalize ed (cS · 1) false x.ci=c2 at *
 have e:(decide (x.pat.n≤200)&&mi x.now&&mi x.sent&&mi x.first&&decide (x.fly.length≤400)&&decide (x.wait.length≤64))=decide (x.pat.n≤200∧(0≤x.now∧x.now≤1099511627776)∧(0≤x.sent∧x.sent≤1099511627776)∧(0≤x.first∧x.first≤1099511627776)∧x.fly.length≤400∧x.wait.length≤64):=by
  unfold mi
  rw[Bool.eq_iff_iff]
  simp[and_assoc]
 rw[e]
 obtain⟨c,hc⟩ : ∃ c,decide (x.pat.n≤200∧(0≤x.now∧x.now≤1099511627776)∧(0≤x.sent∧x.sent≤1099511627776)∧(0≤x.first∧x.first≤1099511627776)∧x.fly.length≤400∧x.wait.length≤64)=c:=⟨_,rfl⟩
 rw[hc]
 refine af.aG ae Tryz.func83 rfl (by decide) (n:=Tryz.f83.ntmps - 1) rfl rfl fun w0 av=>?_
 conv=>whnf
 repeat (refine aa.of ?_;conv=>whnf)
 intro b1
 conv=>whnf
 repeat (refine aa.of ?_;conv=>whnf)
 repeat' (first
  | (split<;>conv=>whnf))
 · rename_i hx
   refine⟨_,ax.refl _,?_⟩
   have hcf:c=false:=by
    rw[← hc,decide_eq_false_iff_not]
    simp only[aB,ao,decide_eq_true_eq,Bool.or_eq_true] at hx
    omega
   rw[hcf]
   rfl
 rename_i hx
 have hct:c=true:=by
  rw[← hc,decide_eq_true_eq]
  simp only[aB,ao,Bool.or_eq_true,Bool.or_eq_false_iff,decide_eq_true_eq,decide_eq_false_iff_not,not_or] at hx
  omega
 rw[hct,Bool.true_and]
 conv=>whnf
 repeat (refine aa.of ?_;conv=>whnf)
 refine az.loop ae (ι:=Nat) (List.range' 3 1++List.range' 51 58) (fun z=>z≤x.fly.length∧∀ j,j<z→jt x.now x.fly j=true)
  (fun z=>[(3,.v (.int .i64 (z:Int)))]) (fun _=>[dO x]) (fun _=>⟨fun w=>ai w x.fh.a (x.fly.flatMap bX)∧ai w x.wh.a (x.wait.map du),[]⟩)
  (fun z=>x.fly.length - z) 0 ⟨Nat.zero_le _,fun j h=>by omega⟩ ?_ rfl (ax.of_le ⟨by simp[Value.cells],fun w hw=>hw⟩) fun i hi=>?_
 · conv=>whnf
   repeat (first | exact au.nil | refine au.any ?_ | refine au.cons ?_)
 obtain⟨hi,hall⟩:=hi
 conv=>whnf
 repeat (refine aa.of ?_;conv=>whnf)
 refine bF.split (fun hlt=>?_) (fun hlt=>?_)
 · have hlt':i<x.fly.length:=by
    simp only[ao,decide_eq_true_eq] at hlt
    omega
   have hok:jt x.now x.fly i=(decide ((1≤x.fly[i].data.n∧x.fly[i].data.n≤128)∧x.now<x.fly[i].due∧x.fly[i].due≤IntKind.i64.wrap (x.now+8)∧(0<i→x.fly[i - 1]!.due≤x.fly[i].due))):=by
    unfold jt
    rw[bn hlt']
   have hnext:jt x.now x.fly i=true→∀ j,j<i+1→jt x.now x.fly j=true:=fun hs j hj=>by
    rcases Nat.lt_or_eq_of_le (Nat.lt_succ_iff.1 hj) with h5 | h5
    · exact hall j h5
    · exact h5 ▸ hs
   have hq1:=jY x.fly[i].data.h x.fly[i].data.n
   obtain⟨q1,heq1⟩ : ∃ q,q=decide (1≤x.fly[i].data.n∧x.fly[i].data.n≤128):=⟨_,rfl⟩
   rw[← heq1] at hq1
   conv=>whnf
   repeat (refine aa.of ?_;conv=>whnf)
   refine az.draw ae mixed rfl rfl ?_
   conv=>whnf
   rcases Nat.eq_zero_or_pos i with h0 | h0
   · have hg:gY (i:Int) 0=false:=by simp[aB];omega
     repeat' (first
      | (rw[hg];conv=>whnf)
      | (refine aw.val hq1 (fun w hw=>trivial) (fun v D hv=>?_);subst hv;cases q1<;>conv=>whnf)
      | (refine ak.index ae (t:=58) rfl rfl rfl (by first | omega) (by first | omega) hfh.nil fun ad had=>?_;conv=>whnf)
      | (refine ak.aH ae rfl rfl (ad:=ad) (k:=i*2+0) (L:=x.fly.flatMap bX) (v:=.int .i64 x.fly[i].due) (.fact fun w hw=>had ▸ hw.1) ?adr (bY (cf:=bX) (z:=2) (fun _=>rfl) hlt' (by decide)) ?_;(case adr=>intro hs;first | rfl);conv=>whnf)
      | (refine ak.aH ae rfl rfl (ad:=ad) (k:=i*2+1) (L:=x.fly.flatMap bX) (v:=du x.fly[i].data) (.fact fun w hw=>had ▸ hw.1) ?adr (bY (cf:=bX) (z:=2) (fun _=>rfl) hlt' (by decide)) ?_;(case adr=>intro hs;first | rfl | (rw[Addr.bD hs];rfl));conv=>whnf)
      | (split<;>conv=>whnf))
     all_goals first
      | (refine⟨_,ax.refl _,?_⟩;rw[aJ hlt' (by rw[hok];((try subst heq1);(try subst heq2);(try subst heq3);simp only[cond_true,cond_false,ao,aC,aB,aD,aA,aE,decide_eq_true_eq,decide_eq_false_iff_not,beq_iff_eq,bne_iff_ne,ne_eq,beq_eq_false_iff_ne,bne_eq_false_iff_eq,Bool.not_eq_true,Bool.not_eq_false,Bool.and_true,Bool.true_and,Bool.and_false,Bool.false_and,Bool.or_true,Bool.or_false,Bool.true_or,Bool.false_or,Bool.not_eq_true',Bool.not_eq_false',Bool.not_true,Bool.not_false] at *;first | omega | (simp_all;omega)))];first | done | rfl)
      | (
       refine⟨i+1,⟨⟨hlt',hnext (by rw[hok];((try subst heq1);(try subst heq2);(try subst heq3);simp only[cond_true,cond_false,ao,aC,aB,aD,aA,aE,decide_eq_true_eq,decide_eq_false_iff_not,beq_iff_eq,bne_iff_ne,ne_eq,beq_eq_false_iff_ne,bne_eq_false_iff_eq,Bool.not_eq_true,Bool.not_eq_false,Bool.and_true,Bool.true_and,Bool.and_false,Bool.false_and,Bool.or_true,Bool.or_false,Bool.true_or,Bool.false_or,Bool.not_eq_true',Bool.not_eq_false',Bool.not_true,Bool.not_false] at *;first | (simp_all;done)))⟩,by dsimp only;omega⟩,?_,?_,ax.refl _⟩;(conv=>whnf);refine⟨?_,rfl⟩;repeat (first | exact au.nil | refine au.any ?_ | refine au.cons ?_ | refine au.eq (by rw[wrap_i64 (by omega)];rfl) ?_)
       (conv=>whnf);exact⟨⟨rfl,rfl⟩,trivial⟩)
   · have hg:gY (i:Int) 0=true:=by simp[aB];omega
     have hj:i - 1<x.fly.length:=by omega
     have hw1:IntKind.i64.wrap ((i:Int) - 1)=((i - 1:Nat):Int):=by
      rw[wrap_i64 (by omega)]
      omega
     try rw[bn hj] at hok
     repeat' (first
      | (rw[hg];conv=>whnf)
      | (refine aw.val hq1 (fun w hw=>trivial) (fun v D hv=>?_);subst hv;cases q1<;>conv=>whnf)
      | (refine ak.index ae (t:=58) rfl rfl rfl (by first | omega) (by first | omega) hfh.nil fun ad had=>?_;conv=>whnf)
      | (refine ak.aH ae rfl rfl (ad:=ad) (k:=i*2+0) (L:=x.fly.flatMap bX) (v:=.int .i64 x.fly[i].due) (.fact fun w hw=>had ▸ hw.1) ?adr (bY (cf:=bX) (z:=2) (fun _=>rfl) hlt' (by decide)) ?_;(case adr=>intro hs;first | rfl | (rw[hw1];rfl));conv=>whnf)
      | (refine ak.aH ae rfl rfl (ad:=ad) (k:=i*2+1) (L:=x.fly.flatMap bX) (v:=du x.fly[i].data) (.fact fun w hw=>had ▸ hw.1) ?adr (bY (cf:=bX) (z:=2) (fun _=>rfl) hlt' (by decide)) ?_;(case adr=>intro hs;first | rfl | (rw[Addr.bD hs];rfl) | (rw[hw1];rfl));conv=>whnf)
      | (refine ak.aH ae rfl rfl (ad:=ad) (k:=(i - 1)*2+0) (L:=x.fly.flatMap bX) (v:=.int .i64 x.fly[i - 1].due) (.fact fun w hw=>had ▸ hw.1) ?adr (bY (cf:=bX) (z:=2) (fun _=>rfl) hj (by decide)) ?_;(case adr=>intro hs;first | rfl | (rw[hw1,Addr.bD hs];rfl));conv=>whnf)
      | (split<;>conv=>whnf))
     all_goals first
      | (refine⟨_,ax.refl _,?_⟩;rw[aJ hlt' (by rw[hok];((try subst heq1);(try subst heq2);(try subst heq3);simp only[cond_true,cond_false,ao,aC,aB,aD,aA,aE,decide_eq_true_eq,decide_eq_false_iff_not,beq_iff_eq,bne_iff_ne,ne_eq,beq_eq_false_iff_ne,bne_eq_false_iff_eq,Bool.not_eq_true,Bool.not_eq_false,Bool.and_true,Bool.true_and,Bool.and_false,Bool.false_and,Bool.or_true,Bool.or_false,Bool.true_or,Bool.false_or,Bool.not_eq_true',Bool.not_eq_false',Bool.not_true,Bool.not_false] at *;first | omega | (simp_all;omega)))];first | done | rfl)
      | (
       refine⟨i+1,⟨⟨hlt',hnext (by rw[hok];((try subst heq1);(try subst heq2);(try subst heq3);simp only[cond_true,cond_false,ao,aC,aB,aD,aA,aE,decide_eq_true_eq,decide_eq_false_iff_not,beq_iff_eq,bne_iff_ne,ne_eq,beq_eq_false_iff_ne,bne_eq_false_iff_eq,Bool.not_eq_true,Bool.not_eq_false,Bool.and_true,Bool.true_and,Bool.and_false,Bool.false_and,Bool.or_true,Bool.or_false,Bool.true_or,Bool.false_or,Bool.not_eq_true',Bool.not_eq_false',Bool.not_true,Bool.not_false] at *;first | (simp_all;done)))⟩,by dsimp only;omega⟩,?_,?_,ax.refl _⟩;(conv=>whnf);refine⟨?_,rfl⟩;repeat (first | exact au.nil | refine au.any ?_ | refine au.cons ?_ | refine au.eq (by rw[wrap_i64 (by omega)];rfl) ?_)
       (conv=>whnf);exact⟨⟨rfl,rfl⟩,trivial⟩)
 · have hie:i=x.fly.length:=by
    simp only[ao,decide_eq_false_iff_not] at hlt
    omega
   subst hie
   conv=>whnf
   repeat (refine aa.of ?_;conv=>whnf)
   rw[aV hall,Bool.true_and]
   clear hall hi
   refine az.loop ae (ι:=Nat) (List.range' 4 1++List.range' 109 14) (fun z=>z≤x.wait.length∧∀ j,j<z→vX x.wait j=true)
    (fun z=>[(4,.v (.int .i64 (z:Int)))]) (fun _=>[dO x]) (fun _=>⟨fun w=>ai w x.fh.a (x.fly.flatMap bX)∧ai w x.wh.a (x.wait.map du),[]⟩)
    (fun z=>x.wait.length - z) 0 ⟨Nat.zero_le _,fun j h=>by omega⟩ ?_ rfl (ax.of_le ⟨by simp[Value.cells],fun w hw=>hw⟩) fun i hi=>?_
   · conv=>whnf
     repeat (first | exact au.nil | refine au.any ?_ | refine au.cons ?_)
   obtain⟨hi,hall⟩:=hi
   conv=>whnf
   repeat (refine aa.of ?_;conv=>whnf)
   refine bF.split (fun hlt=>?_) (fun hlt=>?_)
   · have hlt':i<x.wait.length:=by
      simp only[ao,decide_eq_true_eq] at hlt
      omega
     have hok:vX x.wait i=(decide (1≤x.wait[i].n∧x.wait[i].n≤128)):=by
      unfold vX
      rw[bn hlt']
     have hnext:vX x.wait i=true→∀ j,j<i+1→vX x.wait j=true:=fun hs j hj=>by
      rcases Nat.lt_or_eq_of_le (Nat.lt_succ_iff.1 hj) with h5 | h5
      · exact hall j h5
      · exact h5 ▸ hs
     have hq3:=jY x.wait[i].h x.wait[i].n
     obtain⟨q3,heq3⟩ : ∃ q,q=decide (1≤x.wait[i].n∧x.wait[i].n≤128):=⟨_,rfl⟩
     rw[← heq3] at hq3 hok
     conv=>whnf
     repeat (refine aa.of ?_;conv=>whnf)
     repeat' (first
      | (refine aw.val hq3 (fun w hw=>trivial) (fun v D hv=>?_);subst hv;cases q3<;>conv=>whnf)
      | (refine ar.aj (ak.index ae (t:=40) rfl rfl rfl (by first | omega) (by first | omega) hwh.nil fun ad had=>?_);conv=>whnf)
      | (refine ar.aj (ak.aH ae rfl rfl (ad:=ad) (k:=i) (L:=x.wait.map du) (v:=du x.wait[i]) (.fact fun w hw=>had ▸ hw.2) ?adr (by rw[List.getElem?_map,List.getElem?_eq_getElem hlt'];rfl) ?_);(case adr=>intro hs;first | (rw[Nat.mul_one];rfl) | rfl);conv=>whnf))
     · exact⟨_,ax.refl _,by rw[aJ hlt' (by rw[hok])];rfl⟩
     · refine⟨i+1,⟨⟨hlt',hnext hok⟩,by dsimp only;omega⟩,?_,?_,ax.refl _⟩
       · conv=>whnf
         refine⟨?_,rfl⟩
         repeat (first | exact au.nil | refine au.any ?_ | refine au.cons ?_ | refine au.eq (by rw[wrap_i64 (by omega)];rfl) ?_)
       · conv=>whnf
         exact⟨⟨rfl,rfl⟩,trivial⟩
   · have hie:i=x.wait.length:=by
      simp only[ao,decide_eq_false_iff_not] at hlt
      omega
     subst hie
     conv=>whnf
     repeat (refine aa.of ?_;conv=>whnf)
     rw[aV hall,Bool.true_and]
     repeat' (first
      | (refine aw.val hc1 (fun w hw=>trivial) (fun v D hv=>?_);subst hv;cases c1<;>conv=>whnf)
      | (refine aw.val hc2 (fun w hw=>trivial) (fun v D hv=>?_);subst hv;conv=>whnf))
     all_goals exact⟨_,ax.refl _,rfl⟩
theorem zm {E:List Value} {k:Nat} {a b:Value} (h1:E[k]? = some a) (h2:E[k+1]? = some b):(E.drop k).take 2 = [a,b]:=by
 have l2:k+1<E.length:=(List.getElem?_eq_some_iff.1 h2).1
 rw[List.drop_eq_getElem_cons (by omega),List.drop_eq_getElem_cons l2]
 rw[List.getElem?_eq_getElem (by omega)] at h1 h2
 cases h1
 cases h2
 rfl
theorem p_ (s:bW) (E:List Value) (hR:dJ s E) (hl:E.length=380) (ho:s.Ok) (l1:s.lk.co.left=0) (l2:s.lk.ci.left=0) (l3:s.se.co.left=0) (l4:s.se.ci.left=0)
 (h9:af Tryz.prog 90 [.agg ⟨[.int .i64 s.nx,s.cp.v]⟩] (fun w=>ai w s.cp.h.a (s.cp.l.flatMap bx)) (fun v F=>v = .bool (allI s.cp.l.length (dR s.nx s.cp.l)&&decide (s.cp.l.length≤400∧1≤s.nx∧s.nx≤1099511627776))))
 (h10:af Tryz.prog 91 [s.gr.v] (fun w=>ai w s.gr.h.a (s.gr.l.flatMap bM)) (fun v F=>v = .bool (allI s.gr.l.length (i_ s.gr.l)&&(decide (s.gr.l.length≤200) && !((dS s.gr.l).any fun y=>false == y))))) :
 af Tryz.prog 47 [.agg ⟨E⟩] s.Rows (fun v F=>v = .bool (eh s)):=by
 have h1:=qM s.pg.l s.pg.h ho.pg.h ho.pg.le
 have h2:=qk s.wi.l s.wi.h ho.wi.h ho.wi.le
 have h3:=qx s.bk.l s.bk.h ho.bk.h ho.bk.le s.dc
 have h4:=qe s.lk ho.fh ho.fl ho.wh ho.wl l1 l2
 have h5:=qn s.se l3 l4
 have h6:=qg s.now s.al.l s.al.h ho.al.h ho.al.le
 have h7:=pU (s.M 0) (s.M 1) (s.M 2) (s.M 3) (s.M 4) s.pe.l s.pe.h ho.pe.h ho.pe.le
 have h8:=qS s.q.l s.q.h ho.q.h ho.q.le s.pr.l s.pr.h ho.pr.h ho.pr.le
 have h11:=qI s.ti.l s.ti.h ho.ti.h ho.ti.le
 have h12:=qf s.qu.l s.qu.h ho.qu.h ho.qu.le
 unfold eh
 generalize dy 96 s.pg.l=q1 at *
 generalize allI s.wi.l.length (gk s.wi.l)=q2 at *
 generalize (dy 160 s.bk.l&&ed iZ true s.dc)=q3 at *
 generalize pM s.lk=q4 at *
 generalize oW s.se=q5 at *
 generalize (allI s.al.l.length (kj s.now s.al.l)&&decide (0≤s.now∧s.now≤1099511627776∧s.al.l.length≤32))=q6 at *
 generalize (allI s.pe.l.length (fX s.pe.l)&&(decide (s.pe.l.length≤32) && !s.M 0))=q7 at *
 generalize (allI s.pr.l.length (kr s.pr.l)&&(allI s.q.l.length (jJ s.pr.l s.q.l)&&decide (s.q.l.length≤400)))=q8 at *
 generalize (allI s.cp.l.length (dR s.nx s.cp.l)&&decide (s.cp.l.length≤400∧1≤s.nx∧s.nx≤1099511627776))=q9 at *
 generalize (allI s.gr.l.length (i_ s.gr.l)&&(decide (s.gr.l.length≤200) && !((dS s.gr.l).any fun y=>false == y)))=q10 at *
 generalize (allI s.ti.l.length (kp s.ti.l)&&decide (s.ti.l.length≤100))=q11 at *
 generalize allI s.qu.l.length (kf s.qu.l)=q12 at *
 have hEl:E.length=380:=hl
 refine af.aG ae Tryz.func47 rfl (by decide) (n:=Tryz.f47.ntmps - 1) rfl rfl fun w0 av=>?_
 conv=>whnf
 repeat (refine aa.of ?_;conv=>whnf)
 refine ar.bQ fun br=>?_
 conv=>whnf
 repeat (refine aa.of ?_;conv=>whnf)
 refine az.loop ae (ι:=Nat) (List.range' 3 1++List.range' 5 10) (fun z=>z≤32∧∀ j,j<z→(fun i=>allI (s.sp i).l.length (gM (s.sp i).l)) j=true)
  (fun z=>[(3,.v (.int .i64 (z:Int)))]) (fun _=>[]) (fun _=>⟨s.Rows,[(br,Row.c E)]⟩)
  (fun z=>32 - z) 0 ⟨Nat.zero_le _,fun j h=>by omega⟩ ?_ rfl (ax.of_le ⟨by simp[Value.cells],fun w hw=>hw⟩) fun i hi=>?_
 · conv=>whnf
   repeat (first | exact au.nil | refine au.any ?_ | refine au.cons ?_)
 obtain⟨hi,hall⟩:=hi
 conv=>whnf
 repeat (refine aa.of ?_;conv=>whnf)
 refine bF.split (fun hlt=>?_) (fun hlt=>?_)
 · have hlt':i<32:=by
    simp only[ao,decide_eq_true_eq] at hlt
    omega
   have hnext:(fun i=>allI (s.sp i).l.length (gM (s.sp i).l)) i=true→∀ j,j<i+1→(fun i=>allI (s.sp i).l.length (gM (s.sp i).l)) j=true:=fun hs j hj=>by
    rcases Nat.lt_or_eq_of_le (Nat.lt_succ_iff.1 hj) with h5 | h5
    · exact hall j h5
    · exact h5 ▸ hs
   have h0:=qL (s.sp i).l (s.sp i).h (ho.sp i hlt').h (ho.sp i hlt').le
   obtain⟨q0,heq0⟩ : ∃ q,q=allI (s.sp i).l.length (gM (s.sp i).l):=⟨_,rfl⟩
   rw[← heq0] at h0
   conv=>whnf
   repeat (refine aa.of ?_;conv=>whnf)
   refine ar.aj (ak.bj ae rfl rfl rfl i rfl (by omega) rfl ?_)
   conv=>whnf
   repeat (refine aa.of ?_;conv=>whnf)
   refine ar.aj (ak.aH ae rfl rfl (ad:=⟨br,0,none⟩) (k:=275+i) (L:=E) (v:=(s.sp i).h.v (s.sp i).l.length) (aK.row (by simp[Value.cells])) (fun _=>by rw[jR,Nat.mul_one];simp[Addr.add]) (hR.eS i (by omega)) ?_)
   conv=>whnf
   repeat (refine aa.of ?_;conv=>whnf)
   refine aw.val h0 (fun w hw=>hw.sp i hlt') (fun v D hv=>?_)
   subst hv
   cases q0
   · conv=>whnf
     repeat (refine aa.of ?_;conv=>whnf)
     refine⟨_,ax.refl _,?_⟩
     have hf:allI 32 (fun i=>allI (s.sp i).l.length (gM (s.sp i).l))=false:=aJ hlt' heq0.symm
     rw[hf]
     rfl
   · conv=>whnf
     repeat (refine aa.of ?_;conv=>whnf)
     refine⟨i+1,⟨⟨hlt',hnext heq0.symm⟩,by dsimp only;omega⟩,?_,?_,ax.refl _⟩
     · conv=>whnf
       refine⟨?_,rfl⟩
       repeat (first | exact au.nil | refine au.any ?_ | refine au.cons ?_ | refine au.eq (by rw[wrap_i64 (by omega)];rfl) ?_)
     · conv=>whnf
       exact trivial
 · have hie:i=32:=by
    simp only[ao,decide_eq_false_iff_not] at hlt
    omega
   have ht:allI 32 (fun i=>allI (s.sp i).l.length (gM (s.sp i).l))=true:=aV (hie ▸ hall)
   clear hall
   rw[ht,Bool.true_and]
   clear ht
   subst hie
   conv=>whnf
   repeat (refine aa.of ?_;conv=>whnf)
   repeat' (first
    | (refine aw.val h3 (fun w hw=>hw.bk) (fun v D hv=>?_);subst hv;cases q3<;>conv=>whnf)
    | (refine aw.val h4 (fun w hw=>⟨hw.fl,hw.wt⟩) (fun v D hv=>?_);subst hv;cases q4<;>conv=>whnf)
    | (refine aw.val h5 (fun w hw=>trivial) (fun v D hv=>?_);subst hv;cases q5<;>conv=>whnf)
    | (refine aw.val h6 (fun w hw=>hw.al) (fun v D hv=>?_);subst hv;cases q6<;>conv=>whnf)
    | (refine aw.val h7 (fun w hw=>hw.pe) (fun v D hv=>?_);subst hv;cases q7<;>conv=>whnf)
    | (refine aw.val h1 (fun w hw=>hw.pg) (fun v D hv=>?_);subst hv;cases q1<;>conv=>whnf)
    | (refine aw.val h2 (fun w hw=>hw.wi) (fun v D hv=>?_);subst hv;cases q2<;>conv=>whnf)
    | (refine aw.val h8 (fun w hw=>⟨hw.pr,hw.q⟩) (fun v D hv=>?_);subst hv;cases q8<;>conv=>whnf)
    | (refine aw.val h9 (fun w hw=>hw.cp) (fun v D hv=>?_);subst hv;cases q9<;>conv=>whnf)
    | (refine aw.val h10 (fun w hw=>hw.gr) (fun v D hv=>?_);subst hv;cases q10<;>conv=>whnf)
    | (refine aw.val h11 (fun w hw=>hw.ti) (fun v D hv=>?_);subst hv;cases q11<;>conv=>whnf)
    | (refine aw.val h12 (fun w hw=>hw.qu) (fun v D hv=>?_);subst hv;conv=>whnf)
    | (refine ar.aj (ak.aQ ae rfl rfl (ad:=⟨br,0,none⟩) (k:=308) (L:=E) (m:=s.bk.v::cE s.dc) (aK.row (by simp[Value.cells])) rfl hR.eDk rfl ?_);conv=>whnf)
    | (refine ar.aj (ak.aQ ae rfl rfl (ad:=⟨br,0,none⟩) (k:=322) (L:=E) (m:=dO s.lk) (aK.row (by simp[Value.cells])) rfl hR.eLk rfl ?_);conv=>whnf)
    | (refine ar.aj (ak.aQ ae rfl rfl (ad:=⟨br,0,none⟩) (k:=346) (L:=E) (m:=dZ s.se) (aK.row (by simp[Value.cells])) rfl hR.eSe rfl ?_);conv=>whnf)
    | (refine ar.aj (ak.aQ ae rfl rfl (ad:=⟨br,0,none⟩) (k:=369) (L:=E) (m:=[.int .i64 s.now,s.al.v]) (aK.row (by simp[Value.cells])) rfl (zm hR.eNow hR.eAl) rfl ?_);conv=>whnf)
    | (refine ar.aj (ak.aQ ae rfl rfl (ad:=⟨br,0,none⟩) (k:=371) (L:=E) (m:=[.bool (s.M 0),.bool (s.M 1),.bool (s.M 2),.bool (s.M 3),.bool (s.M 4),s.pe.v]) (aK.row (by simp[Value.cells])) rfl hR.eIq rfl ?_);conv=>whnf)
    | (refine ar.aj (ak.aQ ae rfl rfl (ad:=⟨br,0,none⟩) (k:=274) (L:=E) (m:=[s.pg.v]) (aK.row (by simp[Value.cells])) rfl hR.ePgC rfl ?_);conv=>whnf)
    | (refine ar.aj (ak.aH ae rfl rfl (ad:=⟨br,0,none⟩) (k:=307) (L:=E) (v:=s.wi.v) (aK.row (by simp[Value.cells])) (fun _=>rfl) hR.eWi ?_);conv=>whnf)
    | (refine ar.aj (ak.aQ ae rfl rfl (ad:=⟨br,0,none⟩) (k:=267) (L:=E) (m:=[s.q.v,s.pr.v]) (aK.row (by simp[Value.cells])) rfl hR.ePo rfl ?_);conv=>whnf)
    | (refine ar.aj (ak.aQ ae rfl rfl (ad:=⟨br,0,none⟩) (k:=269) (L:=E) (m:=[.int .i64 s.nx,s.cp.v]) (aK.row (by simp[Value.cells])) rfl (zm hR.eNx hR.eCp) rfl ?_);conv=>whnf)
    | (refine ar.aj (ak.aH ae rfl rfl (ad:=⟨br,0,none⟩) (k:=271) (L:=E) (v:=s.gr.v) (aK.row (by simp[Value.cells])) (fun _=>rfl) hR.eGr ?_);conv=>whnf)
    | (refine ar.aj (ak.aH ae rfl rfl (ad:=⟨br,0,none⟩) (k:=272) (L:=E) (v:=s.ti.v) (aK.row (by simp[Value.cells])) (fun _=>rfl) hR.eTi ?_);conv=>whnf)
    | (refine ar.aj (ak.aH ae rfl rfl (ad:=⟨br,0,none⟩) (k:=273) (L:=E) (v:=s.qu.v) (aK.row (by simp[Value.cells])) (fun _=>rfl) hR.eQu ?_);conv=>whnf))
   all_goals exact⟨_,ax.refl _,by first | rfl | (congr 1;simp;done)⟩
end Go.Proofs.YtlnhdpjnlffaoaaGreatDoor
