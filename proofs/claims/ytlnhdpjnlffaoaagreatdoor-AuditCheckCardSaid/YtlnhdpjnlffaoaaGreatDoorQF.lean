/- Parts of the proof: AaR, AaS, AaT, AaU. -/
import Derived.Test.YtlnhdpjnlffaoaaGreatDoorQD
import Derived.Test.YtlnhdpjnlffaoaaGreatDoorQE
namespace Go.Proofs.YtlnhdpjnlffaoaaGreatDoor
open Go Go.Sx
set_option maxRecDepth 100000
set_option maxHeartbeats 4000000
set_option linter.unusedVariables false
set_option linter.unusedSimpArgs false
structure Pr where
 src:Int
 dst:Int
 seq:Int
 deriving Inhabited
def b_ (x:Pr):List Value:=[.int .i64 x.src,.int .i64 x.dst,.int .i64 x.seq]
structure Mg where
 src:Int
 dst:Int
 kind:Int
 seq:Int
 a0:Int
 a1:Int
 a2:Int
 a3:Int
 data:Bs
instance:Inhabited Mg:=⟨⟨0,0,0,0,0,0,0,0,default⟩⟩
def gv (x:Mg):List Value:=[.int .i64 x.src,.int .i64 x.dst,.int .i64 x.kind,.int .i64 x.seq,.int .i64 x.a0,.int .i64 x.a1,.int .i64 x.a2,.int .i64 x.a3,du x.data]
theorem fN (a:Int):af Tryz.prog 187 [.int .i64 a] (fun _=>True) (fun v F=>v = .bool (decide (0≤a∧a<32))):=by
 refine af.aG ae Tryz.func187 rfl (by decide) (n:=Tryz.f187.ntmps - 1) rfl rfl fun w0 av=>?_
 conv=>whnf
 repeat (refine aa.of ?_;conv=>whnf)
 exact⟨_,ax.refl _,by congr 1;rw[Bool.eq_iff_iff];simp[aD,ao,aC,aB,aA,aE,and_assoc];try omega⟩
def zW (x:Mg):Bool:=decide (0≤x.src∧x.src<32)&&(decide (0≤x.dst∧x.dst<32)&&decide (x.data.n≤1536))
theorem pN (x:Mg):af Tryz.prog 189 [.agg ⟨gv x⟩] (fun _=>True) (fun v F=>v = .bool (zW x)):=by
 have h1:=fN x.src
 have h2:=fN x.dst
 unfold zW
 generalize decide (0≤x.src∧x.src<32)=q1 at *
 generalize decide (0≤x.dst∧x.dst<32)=q2 at *
 refine af.aG ae Tryz.func189 rfl (by decide) (n:=Tryz.f189.ntmps - 1) rfl rfl fun w0 av=>?_
 conv=>whnf
 repeat (refine aa.of ?_;conv=>whnf)
 intro b1
 conv=>whnf
 repeat (refine aa.of ?_;conv=>whnf)
 repeat' (first
  | (refine aa.of ?_;conv=>whnf)
  | (refine aw.val h1 (fun w hw=>trivial) (fun v D hv=>?_);subst hv;conv=>whnf)
  | (refine aw.val h2 (fun w hw=>trivial) (fun v D hv=>?_);subst hv;conv=>whnf)
  | (cases q1<;>conv=>whnf)
  | (cases q2<;>conv=>whnf))
 all_goals refine⟨_,ax.refl _,?_⟩
 all_goals first | rfl | (congr 1;rw[Bool.eq_iff_iff];simp_all [aD,ao,aC,aB,aA,aE,and_assoc];omega)
def ky (s d:Int) (x:Pr):Bool:=aR x.src s&&aR x.dst d
theorem wu (x:Pr) (b1 b2:Nat) (s d:Int):af Tryz.prog 235 [.agg ⟨b_ x⟩,.pointer (some ⟨b1,0,none⟩),.pointer (some ⟨b2,0,none⟩)]
 (fun w=>ai w (some ⟨b1,0,none⟩) [.int .i64 s]∧ai w (some ⟨b2,0,none⟩) [.int .i64 d]) (fun v F=>v = .bool (ky s d x)):=by
 unfold ky
 refine af.aG ae Tryz.func235 rfl (by decide) (n:=Tryz.f235.ntmps - 3) rfl rfl fun w0 av=>?_
 conv=>whnf
 repeat (refine aa.of ?_;conv=>whnf)
 intro b3
 conv=>whnf
 repeat (refine aa.of ?_;conv=>whnf)
 repeat' (first
  | (refine ar.aj (ak.aH ae rfl rfl (ad:=⟨b1,0,none⟩) (k:=0) (L:=[.int .i64 s]) (v:=.int .i64 s) (.fact fun w hw=>hw.1) (fun _=>rfl) rfl ?_);conv=>whnf)
  | (refine ar.aj (ak.aH ae rfl rfl (ad:=⟨b2,0,none⟩) (k:=0) (L:=[.int .i64 d]) (v:=.int .i64 d) (.fact fun w hw=>hw.2) (fun _=>rfl) rfl ?_);conv=>whnf)
  | (split<;>conv=>whnf))
 all_goals refine⟨_,ax.refl _,?_⟩
 all_goals first | rfl | (congr 1;rw[Bool.eq_iff_iff];simp_all [aD,ao,aC,aB,aA,aE,and_assoc];done)
def eF (l:List Pr) (s d:Int):Int:=match l.findIdx? (ky s d) with
 | some i=>l[i]!.seq
 | none=>0
theorem Bi {α:Type} (cf:α→List Value) (hz : ∀ x,(cf x).length=3) (f:FuncId) (Pre:World→Prop) (p:α→Bool) (u0 u1:Value) (l:List α) (h:Hd) (hh:h.Ok l.length) (hl:l.length≤140737488355328) (hf : ∀ e∈l,af Tryz.prog f [.agg ⟨cf e⟩,u0,u1] Pre (fun v F=>v = .bool (p e))) :
 af Tryz.prog 234 [h.v l.length,.func (.func f) #[] #[u0,u1]] (fun w=>ai w h.a (l.flatMap cf)∧Pre w) (fun v F=>v = .int .i64 (ek (l.findIdx? p))):=by
 refine af.aG ae Tryz.func234 rfl (by decide) (n:=Tryz.f234.ntmps - 2) rfl rfl fun w0 av=>?_
 conv=>whnf
 refine az.loop ae (ι:=Nat) ([5]++List.range' 8 11) (fun x=>x≤l.length∧∀ j (hj:j<l.length),j<x→p l[j]=false)
  (fun x=>[(8,.v (.int .i64 (x:Int)))]) (fun _=>[]) (fun _=>⟨fun w=>ai w h.a (l.flatMap cf)∧Pre w,[]⟩)
  (fun x=>l.length - x) 0 ⟨Nat.zero_le _,fun j hj h=>by omega⟩ ?_ rfl (ax.refl _) fun i hi=>?_
 · conv=>whnf
   repeat (first | exact au.nil | refine au.any ?_ | refine au.cons ?_)
 obtain⟨hi,hall⟩:=hi
 conv=>whnf
 refine bF.split (fun hlt=>?_) (fun hlt=>?_)
 · have hlt':i<l.length:=by
    simp only[ao,decide_eq_true_eq] at hlt
    omega
   conv=>whnf
   repeat (refine aa.of ?_;conv=>whnf)
   refine ar.aj (ak.index ae (t:=79) rfl rfl rfl (by omega) (by omega) hh.nil fun ad had=>?_)
   conv=>whnf
   repeat (refine aa.of ?_;conv=>whnf)
   refine ar.aj (ak.aQ ae (t:=153) rfl rfl (ad:=ad) (k:=i*3) (L:=l.flatMap cf) (m:=cf l[i]) (.fact fun w hw=>had ▸ hw.1) (by simp) (a8 hz hlt') (hz _) ?_)
   conv=>whnf
   repeat (refine aa.of ?_;conv=>whnf)
   refine aw.val (hf _ (List.getElem_mem hlt')) (fun w hw=>hw.2) (fun v D hv=>?_)
   generalize hq:p l[i]=q at hv
   subst hv
   cases q
   · conv=>whnf
     repeat (refine aa.of ?_;conv=>whnf)
     refine⟨i+1,⟨⟨hlt',fun j hj h=>?_⟩,by dsimp only;omega⟩,?_,?_,ax.refl _⟩
     · rcases Nat.lt_or_eq_of_le (Nat.lt_succ_iff.1 h) with h5 | h5
       · exact hall j hj h5
       · subst h5
         exact hq
     · conv=>whnf
       refine⟨?_,rfl⟩
       repeat (first | exact au.nil | refine au.any ?_ | refine au.cons ?_ | refine au.eq (by rw[wrap_i64 (by omega)];rfl) ?_)
     · conv=>whnf
       exact trivial
   · conv=>whnf
     repeat (refine aa.of ?_;conv=>whnf)
     refine⟨_,ax.refl _,?_⟩
     have:l.findIdx? p=some i:=by
      rw[List.findIdx?_eq_some_iff_getElem]
      exact⟨hlt',hq,fun j hj=>by simpa using hall j (by omega) hj⟩
     rw[this]
     rfl
 · have hie:i=l.length:=by
    simp only[ao,decide_eq_false_iff_not] at hlt
    omega
   subst hie
   conv=>whnf
   repeat (refine aa.of ?_;conv=>whnf)
   refine⟨_,ax.refl _,?_⟩
   have:l.findIdx? p=none:=by
    rw[List.findIdx?_eq_none_iff]
    intro x hx
    obtain⟨j,hj,rfl⟩:=List.getElem_of_mem hx
    simpa using hall j hj hj
   rw[this]
   rfl
theorem rA (qv:Value) (hq:a7 qv=true) (l:List Pr) (h:Hd) (hh:h.Ok l.length) (hl:l.length≤140737488355328) (s d:Int) :
 af Tryz.prog 190 [.agg ⟨[qv,h.v l.length]⟩,.int .i64 s,.int .i64 d] (fun w=>ai w h.a (l.flatMap b_)) (fun v F=>v = .int .i64 (eF l s d)):=by
 have hg:=fun(b1 b2:Nat)=>Bi b_ (fun _=>rfl) 235 (fun w=>ai w (some ⟨b1,0,none⟩) [.int .i64 s]∧ai w (some ⟨b2,0,none⟩) [.int .i64 d]) (ky s d) (.pointer (some ⟨b1,0,none⟩)) (.pointer (some ⟨b2,0,none⟩)) l h hh hl (fun e _=>wu e b1 b2 s d)
 have hpl:eF l s d=match l.findIdx? (ky s d) with
  | some i=>l[i]!.seq
  | none=>0:=rfl
 have hlt : ∀ i,l.findIdx? (ky s d)=some i→i<l.length:=fun i hi=>by
  rw[List.findIdx?_eq_some_iff_getElem] at hi
  exact hi.1
 generalize l.findIdx? (ky s d)=fi at *
 obtain⟨z,hz⟩ : ∃ z,z=ek fi:=⟨_,rfl⟩
 rw[← hz] at hg
 refine af.aG ae Tryz.func190 rfl (by decide) (n:=Tryz.f190.ntmps - 3) rfl rfl fun w0 av=>?_
 conv=>whnf
 repeat (refine aa.of ?_;conv=>whnf)
 intro b1
 conv=>whnf
 repeat (refine aa.of ?_;conv=>whnf)
 intro b2
 conv=>whnf
 repeat (refine aa.of ?_;conv=>whnf)
 intro b3
 conv=>whnf
 repeat (refine aa.of ?_;conv=>whnf)
 refine aw.look (hg b2 b3) ((Loc.row _ _).and ((Loc.row _ _).and (Loc.row _ _))) (fun w hst=>⟨hst.now,aK.box 1 rfl (by simp) rfl w hst,aK.box 2 rfl (by simp) rfl w hst⟩) ?_
 conv=>whnf
 repeat (refine aa.of ?_;conv=>whnf)
 cases fi with
 | none=>
  have hz:z = -1:=hz
  refine bF.yes (by simp[ao];omega) ?_
  conv=>whnf
  repeat (refine aa.of ?_;conv=>whnf)
  exact⟨_,ax.refl _,by rw[hpl]⟩
 | some i=>
  have hz:z=(i:Int):=hz
  have hi:=hlt i rfl
  refine bF.no (by simp[ao];omega) ?_
  conv=>whnf
  repeat (refine aa.of ?_;conv=>whnf)
  subst hz
  refine ar.aj (ak.index ae (t:=79) rfl rfl rfl (by omega) (by omega) hh.nil fun ad had=>?_)
  conv=>whnf
  repeat (refine aa.of ?_;conv=>whnf)
  refine ar.aj (ak.aH ae (t:=3) rfl rfl (ad:=ad) (k:=i*3+2) (L:=l.flatMap b_) (v:=.int .i64 l[i].seq) (.fact fun w hw=>had ▸ hw) (fun hs=>by rw[Addr.bD hs];rfl) (bY (cf:=b_) (z:=3) (fun _=>rfl) hi (k:=2) (by decide)) ?_)
  conv=>whnf
  repeat (refine aa.of ?_;conv=>whnf)
  exact⟨_,ax.refl _,by rw[hpl];dsimp only;rw[bn hi]⟩
theorem nA:jO Tryz.prog 153 (kG 3):=by
 refine jO.flat (fs:=_) Tryz.underlying153 (by kernel_rfl) (fun i f h=>?_)
 match i with
 | 0=>cases h;exact⟨by decide,rfl,by kernel_rfl⟩
 | 1=>cases h;exact⟨by decide,rfl,by kernel_rfl⟩
 | 2=>cases h;exact⟨by decide,rfl,by kernel_rfl⟩
 | i+3=>simp at h
def fC (q:List Mg):Nat→Int→Int→Option Int
 | 0,_,_=>none
 | i+1,s,d=>if q[i]!.src=s∧q[i]!.dst=d then some q[i]!.seq else fC q i s d
def kr (l:List Pr) (j:Nat):Bool:=decide ((0≤l[j]!.src∧l[j]!.src<32)∧(0≤l[j]!.dst∧l[j]!.dst<32)∧1≤l[j]!.seq∧l[j]!.seq≤1099511627776∧(0<j→dN l[j - 1]!.src l[j]!.src l[j - 1]!.dst l[j]!.dst<0))
def jJ (l:List Pr) (q:List Mg) (j:Nat):Bool:=zW q[j]! && (decide ((fC q j q[j]!.src q[j]!.dst).getD 0<q[j]!.seq)&&decide (q[j]!.seq≤eF l q[j]!.src q[j]!.dst))
def ja (s d:Int):Value:=dz [s,d,0]
theorem tt {s d s' d':Int} (h:ja s d=ja s' d'):s=s'∧d=d':=by
 have:=oN h
 simp at this
 exact this
structure gD (kv:j_) (f:Int→Int→Option Int):Prop where
 keys : ∀ p∈kv,∃ s d n,p=(ja s d,Value.int .i64 n)∧f s d=some n
 has : ∀ s d n,f s d=some n→∃ p∈kv,p.1=ja s d
 nd:(kv.map (·.1)).Nodup
theorem gD.agg {kv:j_} {f:Int→Int→Option Int} (h:gD kv f) : ∀ p∈kv,kG 3 p.1:=fun p hp=>by
 obtain⟨s,d,n,rfl,-⟩:=h.keys p hp
 exact⟨[s,d,0],rfl,rfl⟩
theorem gD.val {kv:j_} {f:Int→Int→Option Int} (h:gD kv f) {s d n:Int} (hf:f s d=some n) (i:Nat) (u:Value) (hi:kv[i]? = some (ja s d,u)):u = .int .i64 n:=by
 obtain⟨s',d',n',he,hf'⟩:=h.keys _ (List.mem_of_getElem? hi)
 injection he with h1 h2
 obtain⟨rfl,rfl⟩:=tt h1
 rw[hf] at hf'
 cases hf'
 exact h2
theorem gD.no {kv:j_} {f:Int→Int→Option Int} (h:gD kv f) {s d:Int} (hf:f s d=none) : ∀ p∈kv,p.1≠ja s d:=fun p hp he=>by
 obtain⟨s',d',n',rfl,hf'⟩:=h.keys p hp
 obtain⟨rfl,rfl⟩:=tt he
 rw[hf] at hf'
 cases hf'
theorem gD.push {kv:j_} {f g:Int→Int→Option Int} (h:gD kv f) {s d n:Int} (hf:f s d=none) (hg : ∀ s' d',g s' d'=if s=s'∧d=d' then some n else f s' d'):gD (kv ++ [(ja s d,.int .i64 n)]) g where
 keys p hp:=by
  rcases List.mem_append.1 hp with hp | hp
  · obtain⟨s',d',n',rfl,hf'⟩:=h.keys p hp
    refine⟨s',d',n',rfl,?_⟩
    rw[hg,if_neg (fun hc=>by rw[← hc.1,← hc.2,hf] at hf';cases hf'),hf']
  · rw[List.mem_singleton.1 hp]
    exact⟨s,d,n,rfl,by rw[hg,if_pos ⟨rfl,rfl⟩]⟩
 has s' d' n' hn:=by
  rw[hg] at hn
  split at hn
  · rename_i hc
    exact⟨_,List.mem_append.2 (.inr (List.mem_singleton.2 rfl)),by rw[hc.1,hc.2]⟩
  · obtain⟨p,hp,he⟩:=h.has s' d' n' hn
    exact⟨p,List.mem_append.2 (.inl hp),he⟩
 nd:=by
  rw[List.map_append,List.nodup_append]
  refine⟨h.nd,by simp,?_⟩
  intro a ha b hb hab
  simp at hb
  subst hb
  subst hab
  obtain⟨p,hp,he⟩:=List.mem_map.1 ha
  exact h.no hf p hp he
theorem gD.put {kv:j_} {f g:Int→Int→Option Int} (h:gD kv f) {s d n:Int} (hg : ∀ s' d',g s' d'=if s=s'∧d=d' then some n else f s' d') (i:Nat) (u:Value) (hi:kv[i]? = some (ja s d,u)):gD (kv.set i (ja s d,.int .i64 n)) g where
 keys p hp:=by
  rw[List.mem_iff_getElem?] at hp
  obtain⟨j,hj⟩:=hp
  rw[List.getElem?_set] at hj
  by_cases hij:i=j
  · rw[if_pos hij] at hj
    split at hj
    · cases hj
      exact⟨s,d,n,rfl,by rw[hg,if_pos ⟨rfl,rfl⟩]⟩
    · cases hj
  · rw[if_neg hij] at hj
    obtain⟨s',d',n',rfl,hf'⟩:=h.keys p (List.mem_of_getElem? hj)
    refine⟨s',d',n',rfl,?_⟩
    rw[hg,if_neg (fun hc=>?_),hf']
    obtain⟨rfl,rfl⟩:=hc
    apply hij
    have h1:(kv.map (·.1))[i]? = some (ja s d):=by rw[List.getElem?_map,hi];rfl
    have h2:(kv.map (·.1))[j]? = some (ja s d):=by rw[List.getElem?_map,hj];rfl
    have hil:=(List.getElem?_eq_some_iff.1 h1).1
    exact(List.getElem?_inj hil h.nd).1 (h1.trans h2.symm)
 has s' d' n' hn:=by
  have hil:=(List.getElem?_eq_some_iff.1 hi).1
  rw[hg] at hn
  split at hn
  · rename_i hc
    exact⟨(ja s d,.int .i64 n),List.mem_iff_getElem?.2 ⟨i,by rw[List.getElem?_set,if_pos rfl,if_pos hil]⟩,by rw[hc.1,hc.2]⟩
  · obtain⟨p,hp,he⟩:=h.has s' d' n' hn
    obtain⟨j,hj⟩:=List.mem_iff_getElem?.1 hp
    by_cases hij:i=j
    · subst hij
      rw[hi] at hj
      cases hj
      exact⟨(ja s d,.int .i64 n),List.mem_iff_getElem?.2 ⟨i,by rw[List.getElem?_set,if_pos rfl,if_pos hil]⟩,he⟩
    · exact⟨p,List.mem_iff_getElem?.2 ⟨j,by rw[List.getElem?_set,if_neg hij,hj]⟩,he⟩
 nd:=by
  have:(kv.set i (ja s d,.int .i64 n)).map (·.1)=kv.map (·.1):=by
   apply List.ext_getElem?
   intro j
   rw[List.getElem?_map,List.getElem?_map,List.getElem?_set]
   by_cases hij:i=j
   · subst hij
     have hil:=(List.getElem?_eq_some_iff.1 hi).1
     rw[if_pos rfl,if_pos hil,hi]
     rfl
   · rw[if_neg hij]
  rw[this]
  exact h.nd
theorem m5 (q:List Mg) (hq:Hd) (hqo:hq.Ok q.length) (hql:q.length≤140737488355328) (l:List Pr) (h:Hd) (hh:h.Ok l.length) (hl:l.length≤140737488355328) :
 af Tryz.prog 110 [.agg ⟨[hq.v q.length,h.v l.length]⟩] (fun w=>ai w h.a (l.flatMap b_)∧ai w hq.a (q.flatMap gv)) (fun v F=>v = .bool (allI l.length (kr l)&&(allI q.length (jJ l q)&&decide (q.length≤400)))):=by
 refine af.aG ae Tryz.func110 rfl (by decide) (n:=Tryz.f110.ntmps - 1) rfl rfl fun w0 av=>?_
 conv=>whnf
 repeat (refine aa.of ?_;conv=>whnf)
 intro b0_0
 conv=>whnf
 repeat (refine aa.of ?_;conv=>whnf)
 refine az.loop ae (ι:=Nat) ([3,4]++List.range' 12 41) (fun x=>x≤l.length∧∀ j,j<x→kr l j=true)
  (fun x=>[(12,.v (.int .i64 (x:Int)))]) (fun _=>[[hq.v q.length,h.v l.length]]) (fun _=>⟨fun w=>ai w h.a (l.flatMap b_)∧ai w hq.a (q.flatMap gv),[]⟩)
  (fun x=>l.length - x) 0 ⟨Nat.zero_le _,fun j h=>by omega⟩ ?_ rfl (ax.of_le ⟨by simp[Value.cells],fun w hw=>hw⟩) fun i hi=>?_
 · conv=>whnf
   repeat (first | exact au.nil | refine au.any ?_ | refine au.cons ?_)
 obtain⟨hi,hall⟩:=hi
 conv=>whnf
 repeat (refine aa.of ?_;conv=>whnf)
 refine bF.split (fun hlt=>?_) (fun hlt=>?_)
 · have hlt':i<l.length:=by
    simp only[ao,decide_eq_true_eq] at hlt
    omega
   have hok:kr l i=decide ((0≤l[i].src∧l[i].src<32)∧(0≤l[i].dst∧l[i].dst<32)∧1≤l[i].seq∧l[i].seq≤1099511627776∧(0<i→dN l[i - 1]!.src l[i].src l[i - 1]!.dst l[i].dst<0)):=by
    unfold kr
    rw[bn hlt']
   have hnext:kr l i=true→∀ j,j<i+1→kr l j=true:=fun hs j hj=>by
    rcases Nat.lt_or_eq_of_le (Nat.lt_succ_iff.1 hj) with h5 | h5
    · exact hall j h5
    · exact h5 ▸ hs
   have hq1:=fN l[i].src
   obtain⟨q1,heq1⟩ : ∃ q,q=decide (0≤l[i].src∧l[i].src<32):=⟨_,rfl⟩
   rw[← heq1] at hq1
   have hq2:=fN l[i].dst
   obtain⟨q2,heq2⟩ : ∃ q,q=decide (0≤l[i].dst∧l[i].dst<32):=⟨_,rfl⟩
   rw[← heq2] at hq2
   conv=>whnf
   repeat (refine aa.of ?_;conv=>whnf)
   refine ar.aj (ak.index ae (t:=79) rfl rfl rfl (by first | omega) (by first | omega) hh.nil fun ad had=>?_)
   conv=>whnf
   repeat (refine aa.of ?_;conv=>whnf)
   refine ar.aj (ak.aQ ae (t:=153) rfl rfl (ad:=ad) (k:=i*3) (L:=l.flatMap b_) (m:=b_ l[i]) (.fact fun w hw=>had ▸ hw.1) (by simp) (a8 (cf:=b_) (z:=3) (fun _=>rfl) hlt') rfl ?_)
   conv=>whnf
   repeat (refine aa.of ?_;conv=>whnf)
   intro b1
   conv=>whnf
   repeat (refine aa.of ?_;conv=>whnf)
   refine az.draw ae mixed rfl rfl ?_
   conv=>whnf
   rcases Nat.eq_zero_or_pos i with h0 | h0
   · have hg:gY (i:Int) 0=false:=by simp[aB];omega
     repeat' (first
      | (rw[hg];conv=>whnf)
      | (refine aw.val hq1 (fun w hw=>trivial) (fun v D hv=>?_);subst hv;conv=>whnf)
      | (refine aw.val hq2 (fun w hw=>trivial) (fun v D hv=>?_);subst hv;conv=>whnf)
      | (split<;>conv=>whnf))
     all_goals first
      | (refine⟨_,ax.refl _,?_⟩;rw[aJ hlt' (by rw[hok];((try subst heq1);(try subst heq2);(try subst heq3);simp only[cond_true,cond_false,ao,aC,aB,aD,aA,aE,decide_eq_true_eq,decide_eq_false_iff_not,beq_iff_eq,bne_iff_ne,ne_eq,beq_eq_false_iff_ne,bne_eq_false_iff_eq,Bool.not_eq_true,Bool.not_eq_false,Bool.and_true,Bool.true_and,Bool.and_false,Bool.false_and,Bool.or_true,Bool.or_false,Bool.true_or,Bool.false_or,Bool.not_eq_true',Bool.not_eq_false',Bool.not_true,Bool.not_false] at *;first | omega))];first | done | rfl)
      | (
       refine⟨i+1,⟨⟨hlt',hnext (by rw[hok];((try subst heq1);(try subst heq2);(try subst heq3);simp only[cond_true,cond_false,ao,aC,aB,aD,aA,aE,decide_eq_true_eq,decide_eq_false_iff_not,beq_iff_eq,bne_iff_ne,ne_eq,beq_eq_false_iff_ne,bne_eq_false_iff_eq,Bool.not_eq_true,Bool.not_eq_false,Bool.and_true,Bool.true_and,Bool.and_false,Bool.false_and,Bool.or_true,Bool.or_false,Bool.true_or,Bool.false_or,Bool.not_eq_true',Bool.not_eq_false',Bool.not_true,Bool.not_false] at *;first | omega))⟩,by dsimp only;omega⟩,?_,?_,ax.refl _⟩;(conv=>whnf);refine⟨?_,rfl⟩;repeat (first | exact au.nil | refine au.any ?_ | refine au.cons ?_ | refine au.eq (by rw[wrap_i64 (by omega)];rfl) ?_)
       (conv=>whnf);exact⟨⟨rfl,rfl⟩,trivial⟩)
   · have hg:gY (i:Int) 0=true:=by simp[aB];omega
     have hj:i - 1<l.length:=by omega
     have hw1:IntKind.i64.wrap ((i:Int) - 1)=((i - 1:Nat):Int):=by
      rw[wrap_i64 (by omega)]
      omega
     try rw[bn hj] at hok
     repeat' (first
      | (refine dv.of ?_;conv=>whnf)
      | (rw[hg];conv=>whnf)
      | (refine aw.val hq1 (fun w hw=>trivial) (fun v D hv=>?_);subst hv;conv=>whnf)
      | (refine aw.val hq2 (fun w hw=>trivial) (fun v D hv=>?_);subst hv;conv=>whnf)
      | (refine ak.index ae (t:=79) rfl rfl rfl (by first | omega) (by first | omega) hh.nil fun ad2 had2=>?_;conv=>whnf)
      | (refine ak.aQ ae (t:=153) rfl rfl (ad:=ad2) (k:=(i - 1)*3) (L:=l.flatMap b_) (m:=b_ l[i - 1]) (.fact fun w hw=>had2 ▸ hw.1) (by rw[hw1];simp) (a8 (cf:=b_) (z:=3) (fun _=>rfl) hj) rfl ?_;conv=>whnf)
      | (refine aw.val (pY l[i - 1].src l[i - 1].dst l[i - 1].seq l[i].src l[i].dst l[i].seq) (fun w hw=>trivial) (fun v D hv=>?_);subst hv;conv=>whnf)
      | (split<;>conv=>whnf))
     all_goals first
      | (refine⟨_,ax.refl _,?_⟩;rw[aJ hlt' (by rw[hok];((try subst heq1);(try subst heq2);(try subst heq3);simp only[cond_true,cond_false,ao,aC,aB,aD,aA,aE,decide_eq_true_eq,decide_eq_false_iff_not,beq_iff_eq,bne_iff_ne,ne_eq,beq_eq_false_iff_ne,bne_eq_false_iff_eq,Bool.not_eq_true,Bool.not_eq_false,Bool.and_true,Bool.true_and,Bool.and_false,Bool.false_and,Bool.or_true,Bool.or_false,Bool.true_or,Bool.false_or,Bool.not_eq_true',Bool.not_eq_false',Bool.not_true,Bool.not_false] at *;first | omega))];first | done | rfl)
      | (
       refine⟨i+1,⟨⟨hlt',hnext (by rw[hok];((try subst heq1);(try subst heq2);(try subst heq3);simp only[cond_true,cond_false,ao,aC,aB,aD,aA,aE,decide_eq_true_eq,decide_eq_false_iff_not,beq_iff_eq,bne_iff_ne,ne_eq,beq_eq_false_iff_ne,bne_eq_false_iff_eq,Bool.not_eq_true,Bool.not_eq_false,Bool.and_true,Bool.true_and,Bool.and_false,Bool.false_and,Bool.or_true,Bool.or_false,Bool.true_or,Bool.false_or,Bool.not_eq_true',Bool.not_eq_false',Bool.not_true,Bool.not_false] at *;first | omega))⟩,by dsimp only;omega⟩,?_,?_,ax.refl _⟩;(conv=>whnf);refine⟨?_,rfl⟩;repeat (first | exact au.nil | refine au.any ?_ | refine au.cons ?_ | refine au.eq (by rw[wrap_i64 (by omega)];rfl) ?_)
       (conv=>whnf);exact⟨⟨rfl,rfl⟩,trivial⟩)
 · have hie:i=l.length:=by
    simp only[ao,decide_eq_false_iff_not] at hlt
    omega
   subst hie
   conv=>whnf
   repeat (refine aa.of ?_;conv=>whnf)
   rw[aV hall,Bool.true_and]
   clear hall hlt hi
   refine ar.oC fun bm=>?_
   conv=>whnf
   repeat (refine aa.of ?_;conv=>whnf)
   refine az.loop ae (ι:=Nat×j_) ([7,8]++List.range' 57 36) (fun x=>x.1≤q.length∧(∀ j,j<x.1→jJ l q j=true)∧gD x.2 (fC q x.1))
    (fun x=>[(57,.v (.int .i64 (x.1:Int)))]) (fun _=>[[hq.v q.length,h.v l.length]]) (fun x=>⟨fun w=>ai w h.a (l.flatMap b_)∧ai w hq.a (q.flatMap gv),[(bm,Row.m (cw x.2) x.2.length)]⟩)
    (fun x=>q.length - x.1) (0,[]) ⟨Nat.zero_le _,fun j h=>by omega,gD.mk (by simp) (fun s d n h=>by simp[fC] at h) (by simp)⟩ ?_ rfl (ax.refl _) fun x hx=>?_
   · conv=>whnf
     repeat (first | exact au.nil | refine au.any ?_ | refine au.cons ?_)
   obtain⟨i,kv⟩:=x
   obtain⟨hi,hall,hkv⟩:=hx
   dsimp only at hi hall hkv ⊢
   conv=>whnf
   repeat (refine aa.of ?_;conv=>whnf)
   refine bF.split (fun hlt=>?_) (fun hlt=>?_)
   · have hlt':i<q.length:=by
      simp only[ao,decide_eq_true_eq] at hlt
      omega
     have hok:jJ l q i=(zW q[i]&&(decide ((fC q i q[i].src q[i].dst).getD 0<q[i].seq)&&decide (q[i].seq≤eF l q[i].src q[i].dst))):=by
      unfold jJ
      rw[bn hlt']
     have hnl : ∀ s' d',fC q (i+1) s' d'=if q[i].src=s'∧q[i].dst=d' then some q[i].seq else fC q i s' d':=fun s' d'=>by
      conv=>lhs;unfold fC
      rw[bn hlt']
     have hnext:jJ l q i=true→∀ j,j<i+1→jJ l q j=true:=fun hs j hj=>by
      rcases Nat.lt_or_eq_of_le (Nat.lt_succ_iff.1 hj) with h5 | h5
      · exact hall j h5
      · exact h5 ▸ hs
     have hpp:=pN q[i]
     have hpl:=rA (hq.v q.length) rfl l h hh hl q[i].src q[i].dst
     obtain⟨q1,heq1⟩ : ∃ x,x=zW q[i]:=⟨_,rfl⟩
     rw[← heq1] at hpp
     conv=>whnf
     repeat (refine aa.of ?_;conv=>whnf)
     refine ar.aj (ak.index ae (t:=27) rfl rfl rfl (by omega) (by omega) hqo.nil fun ad had=>?_)
     conv=>whnf
     repeat (refine aa.of ?_;conv=>whnf)
     refine ar.aj (ak.aQ ae (t:=206) rfl rfl (ad:=ad) (k:=i*9) (L:=q.flatMap gv) (m:=gv q[i]) (.fact fun w hw=>had ▸ hw.2) (by simp) (a8 (cf:=gv) (z:=9) (fun _=>rfl) hlt') rfl ?_)
     conv=>whnf
     repeat (refine aa.of ?_;conv=>whnf)
     intro b7
     conv=>whnf
     repeat (refine aa.of ?_;conv=>whnf)
     intro b8
     conv=>whnf
     repeat (refine aa.of ?_;conv=>whnf)
     refine az.draw ae mixed rfl rfl ?_
     conv=>whnf
     rcases hlo:fC q i q[i].src q[i].dst with _ | n
     · repeat' (first
        | (refine dv.of ?_;conv=>whnf)
        | (refine aw.val hpp (fun w hw=>trivial) (fun v D hv=>?_);subst hv;conv=>whnf)
        | (refine aw.val hpl (fun w hw=>hw.1) (fun v D hv=>?_);subst hv;conv=>whnf)
        | (refine ar.aj (ak.lK ae (t:=320) rfl rfl rfl nA (z:=.int .i64 0) (fH.row (by simp)) ⟨[q[i].src,q[i].dst,0],rfl,rfl⟩ hkv.agg (hkv.no hlo) (by kernel_rfl) ?_);rw[if_neg (by decide)];conv=>whnf)
        | (split<;>conv=>whnf))
       iterate 3 (refine⟨_,ax.refl _,?_⟩;rw[aJ hlt' (by rw[hok,hlo];(try subst heq1);simp_all [aC,aB]<;>(try omega))];first | done | rfl)
       have hgood:jJ l q i=true:=by
        rw[hok,hlo]
        subst heq1
        simp_all [aC,aB]
       refine aP.rD ae (t:=320) rfl rfl rfl nA (r1:=[]) (r2:=[]) (b:=bm) (l:=kv) (k:=ja q[i].src q[i].dst) (v:=.int .i64 q[i].seq) ⟨[q[i].src,q[i].dst,0],rfl,rfl⟩ hkv.agg (hkv.no hlo) ?_
       conv=>whnf
       repeat (refine aa.of ?_;conv=>whnf)
       refine⟨(i+1,kv ++ [(ja q[i].src q[i].dst,.int .i64 q[i].seq)]),⟨⟨hlt',hnext hgood,?_⟩,by dsimp only;omega⟩,?_,?_,ax.refl _⟩
       · exact hkv.push hlo hnl
       · conv=>whnf
         refine⟨?_,rfl⟩
         repeat (first | exact au.nil | refine au.any ?_ | refine au.cons ?_ | refine au.eq (by rw[wrap_i64 (by omega)];rfl) ?_)
       · conv=>whnf
         exact⟨⟨rfl,rfl⟩,trivial⟩
     · repeat' (first
        | (refine dv.of ?_;conv=>whnf)
        | (refine aw.val hpp (fun w hw=>trivial) (fun v D hv=>?_);subst hv;conv=>whnf)
        | (refine aw.val hpl (fun w hw=>hw.1) (fun v D hv=>?_);subst hv;conv=>whnf)
        | (refine ar.aj (ak.lC ae (t:=320) rfl rfl rfl nA (v:=.int .i64 n) (fH.row (by simp)) ⟨[q[i].src,q[i].dst,0],rfl,rfl⟩ hkv.agg (hkv.val hlo) (hkv.has _ _ _ hlo) ?_);rw[if_neg (by decide)];conv=>whnf)
        | (split<;>conv=>whnf))
       iterate 3 (refine⟨_,ax.refl _,?_⟩;rw[aJ hlt' (by rw[hok,hlo];(try subst heq1);simp_all [aC,aB]<;>(try omega))];first | done | rfl)
       have hgood:jJ l q i=true:=by
        rw[hok,hlo]
        subst heq1
        simp_all [aC,aB]
       refine aP.AK ae (t:=320) rfl rfl rfl nA (r1:=[]) (r2:=[]) (b:=bm) (l:=kv) (k:=ja q[i].src q[i].dst) (v:=.int .i64 q[i].seq) ⟨[q[i].src,q[i].dst,0],rfl,rfl⟩ hkv.agg (hkv.has _ _ _ hlo) fun i2 u2 hi2=>?_
       conv=>whnf
       repeat (refine aa.of ?_;conv=>whnf)
       refine⟨(i+1,kv.set i2 (ja q[i].src q[i].dst,.int .i64 q[i].seq)),⟨⟨hlt',hnext hgood,?_⟩,by dsimp only;omega⟩,?_,?_,ax.refl _⟩
       · exact hkv.put hnl i2 u2 hi2
       · conv=>whnf
         refine⟨?_,rfl⟩
         repeat (first | exact au.nil | refine au.any ?_ | refine au.cons ?_ | refine au.eq (by rw[wrap_i64 (by omega)];rfl) ?_)
       · conv=>whnf
         exact⟨⟨rfl,rfl⟩,trivial⟩
   · have hie:i=q.length:=by
      simp only[ao,decide_eq_false_iff_not] at hlt
      omega
     subst hie
     conv=>whnf
     repeat (refine aa.of ?_;conv=>whnf)
     refine⟨_,ax.refl _,?_⟩
     rw[aV hall,Bool.true_and]
     congr 1
     rw[Bool.eq_iff_iff]
     simp[aC]
     try omega
structure Rt where
 ty:Int
 peer:Int
 code:Int
 deriving Inhabited
def s5 (x:Rt):List Value:=[.int .i64 x.ty,.int .i64 x.peer,.int .i64 x.code]
structure Cp where
 id:Int
 parent:Int
 owner:Int
 r:Rt
 deriving Inhabited
def bx (x:Cp):List Value:=[.int .i64 x.id,.int .i64 x.parent,.int .i64 x.owner,.int .i64 x.r.ty,.int .i64 x.r.peer,.int .i64 x.r.code]
def yo (x:Rt):Bool:=if aR x.ty 1 then decide (1≤x.peer∧x.peer≤10∧1≤x.code∧x.code<28) else if aR x.ty 2 then decide (x.peer=0∧1≤x.code∧x.code<17) else if aR x.ty 3 then decide (x.peer=0∧1≤x.code∧x.code≤4) else false
theorem qa (x:Rt):af Tryz.prog 191 [.agg ⟨s5 x⟩] (fun _=>True) (fun v F=>v = .bool (yo x)):=by
 unfold yo
 refine af.aG ae Tryz.func191 rfl (by decide) (n:=Tryz.f191.ntmps - 1) rfl rfl fun w0 av=>?_
 conv=>whnf
 repeat (refine aa.of ?_;conv=>whnf)
 intro b1
 conv=>whnf
 repeat (refine aa.of ?_;conv=>whnf)
 repeat' (first
  | (refine aa.of ?_;conv=>whnf)
  | (refine bF.split (fun h=>?_) (fun h=>?_)<;>conv=>whnf)
  | (split<;>conv=>whnf))
 all_goals refine⟨_,ax.refl _,?_⟩
 all_goals first | rfl | (congr 1;rw[Bool.eq_iff_iff];simp_all [aD,ao,aC,aB,aA,aE,and_assoc];done)
theorem my : ∀ (i:Nat) (f:Field),(Array.toList (Tryz.prog.fieldsOf 159))[i]? = some f→f.name≠"_"∧f.offset=i∧Tryz.prog.underlying f.type=some (.int .i64):=by
 rw[show Tryz.prog.fieldsOf 159=_ from by unfold Program.fieldsOf;rw[Tryz.underlying159]]
 intro i f h
 match i with
 | 0=>cases h;exact⟨by decide,rfl,by kernel_rfl⟩
 | 1=>cases h;exact⟨by decide,rfl,by kernel_rfl⟩
 | 2=>cases h;exact⟨by decide,rfl,by kernel_rfl⟩
 | i+3=>simp at h
theorem yW:Tryz.prog.underlying 159=some (.struct (Tryz.prog.fieldsOf 159)):=by
 unfold Program.fieldsOf
 rw[Tryz.underlying159]
theorem zr:(Tryz.prog.fieldsOf 159).size=3:=by
 unfold Program.fieldsOf
 rw[Tryz.underlying159]
 rfl
theorem wV:yx Tryz.prog 159 3:=by
 have:=yx.flat yW (by kernel_rfl) my
 rw[zr] at this
 exact this
theorem jC:jO Tryz.prog 325 (kG 4):=by
 obtain⟨i1,d1,z1,p1,p2,p3,p4,p5,p6,p7,p8⟩:=aN (ae 159 _ rfl)
 exact jO.nest (f0:=_) (f1:=_) Tryz.underlying325 (by kernel_rfl) ⟨by decide,rfl,by kernel_rfl⟩ ⟨by decide,rfl,rfl⟩ yW p1 p5.symm (by kernel_rfl) zr my
def eE (x y:Rt):Bool:=aR x.ty y.ty&&(aR x.peer y.peer&&aR x.code y.code)
theorem rQ (x:Cp) (b1 b2:Nat) (o:Int) (r:Rt):af Tryz.prog 199 [.agg ⟨bx x⟩,.pointer (some ⟨b1,0,none⟩),.pointer (some ⟨b2,0,none⟩)]
 (fun w=>ai w (some ⟨b1,0,none⟩) [.int .i64 o]∧ai w (some ⟨b2,0,none⟩) (s5 r)) (fun v F=>v = .bool (aR x.owner o&&eE x.r r)):=by
 unfold eE
 refine af.aG ae Tryz.func199 rfl (by decide) (n:=Tryz.f199.ntmps - 3) rfl rfl fun w0 av=>?_
 conv=>whnf
 repeat (refine aa.of ?_;conv=>whnf)
 intro b3
 conv=>whnf
 repeat (refine aa.of ?_;conv=>whnf)
 repeat' (first
  | (refine ar.aj (ak.aH ae rfl rfl (ad:=⟨b1,0,none⟩) (k:=0) (L:=[.int .i64 o]) (v:=.int .i64 o) (.fact fun w hw=>hw.1) (fun _=>rfl) rfl ?_);conv=>whnf)
  | (refine ar.aj (ak.aQ ae rfl rfl (ad:=⟨b2,0,none⟩) (k:=0) (L:=s5 r) (m:=s5 r) (.fact fun w hw=>hw.2) rfl rfl rfl ?_);conv=>whnf)
  | (refine ar.aj (ak.BJ wV (by kernel_rfl) (xs:=[x.r.ty,x.r.peer,x.r.code]) (ys:=[r.ty,r.peer,r.code]) rfl rfl ?_);conv=>whnf)
  | (split<;>conv=>whnf))
 all_goals refine⟨_,ax.refl _,?_⟩
 all_goals first | rfl | (congr 1;rw[Bool.eq_iff_iff];simp_all [aD,ao,aC,aB,aA,aE,and_assoc];done)
end Go.Proofs.YtlnhdpjnlffaoaaGreatDoor
