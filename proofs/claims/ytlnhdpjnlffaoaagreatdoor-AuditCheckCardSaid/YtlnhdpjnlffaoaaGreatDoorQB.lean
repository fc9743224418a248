/- Parts of the proof: SxP, SxQ, SxR, SxS, SxT, SxU, SxV, SxW, SxX, SxY. -/
import Derived.Test.YtlnhdpjnlffaoaaGreatDoorQA
import Derived.Laws.Strings
namespace Go.Sx
set_option linter.unusedVariables false
section
variable {P:Program} {aY:er} {w0:World} {R:Nat→Nat→Prop} {av:Nat→Prop}
theorem uU {E:List (Nat×pS)} {bs bs':List (Nat×Nat)} {cs cs':List (List Value)} {D D':Fx} {K:Prop} (h:yp E bs cs D bs' cs' D' K) :
 K∧∀ i dep,(i,dep)∈E→(j5 cs dep→j5 cs' dep)∧∀ w,j5 cs dep→ma w0 R av bs' cs' D' dep w→ma w0 R av bs cs D dep w:=by
 unfold yp at h
 split at h
 · rename_i hm
   obtain⟨h1,h2⟩:=eX h.rest
   refine⟨h1,fun i dep hi=>?_⟩
   cases dep with
   | none=>exact⟨fun _=>trivial,fun _ _ _=>trivial⟩
   | base=>exact⟨fun _=>trivial,fun _ _ h=>h⟩
   | all=>
    refine⟨fun _=>trivial,fun w _ hst=>?_⟩
    have hst:St w0 R av w [] [] D':=hst
    exact hst.bZ h.data
   | box j=>
    obtain⟨e1,e2,e3⟩:=h2 i j hi
    exact⟨fun _=>e3,fun w _ hw=>by
     show Range w _ _ _
     rw[← e1,← e2]
     exact hw⟩
 · rename_i hm
   obtain⟨h1,h2⟩:=eX h
   refine⟨h1,fun i dep hi=>?_⟩
   cases dep with
   | none=>exact⟨fun _=>trivial,fun _ _ _=>trivial⟩
   | base=>exact⟨fun _=>trivial,fun _ _ h=>h⟩
   | all=>rw[iI hi] at hm;cases hm
   | box j=>
    obtain⟨e1,e2,e3⟩:=h2 i j hi
    exact⟨fun _=>e3,fun w _ hw=>by
     show Range w _ _ _
     rw[← e1,← e2]
     exact hw⟩
def left (L':Array Bool):Nat:=(L'.toList.filter fun b=>!b).length
theorem n7 {L':Array Bool} {i:Nat} (hi:i<L'.size) (h:L'.getD i false=false):left (L'.setIfInBounds i true)+1=left L':=by
 unfold left
 rw[Array.toList_setIfInBounds]
 have hi':i<L'.toList.length:=by simpa using hi
 have hv:L'.toList[i]=false:=by
  have:L'[i]=false:=by simpa [Array.getD,hi] using h
  simpa using this
 generalize L'.toList=l at hi' hv
 clear h hi
 induction l generalizing i with
 | nil=>simp at hi'
 | cons x xs ih=>
  cases i with
  | zero=>
   simp at hv
   subst hv
   simp
  | succ i=>
   have:=ih (i:=i) (by simpa using hi') (by simpa using hv)
   cases x<;>simp<;>omega
theorem vw (hT:bB P aY) {ops:Array Oper} {Q:Exit→Act→World→Prop} (hns:s_ ops.toList=true) (hbk:jA ops.toList 0=true) {K:KT} (hQ : ∀ act w,h_ w0 R av K act w→Q .normal act w) :
 ∀ (s n m:Nat) (L:List Bool) (L':Array Bool) (E:List (Nat×pS)) (tm:List SV) (bs:List (Nat×Nat)) (cs:List (List Value)) (D:Fx) (a a':Array Value) (w:World),
  n+m≤s→left L'≤m→rR P aY w0 R av ops.toList n L E tm bs cs D K→a_ bs tm a→St w0 R av w bs cs D→DS P w0 R av ops L L' E bs cs D a a'→wpAny P .any ops Q m L' ⟨a',[]⟩ w:=by
 intro s
 induction s with
 | zero=>
  intro n m L L' E tm bs cs D a a' w hs hm h hf hst hsim
  obtain rfl:n=0:=by omega
  exact h.elim
 | succ s ih=>
  intro n m L L' E tm bs cs D a a' w hs hm h hf hst hsim
  cases n with
  | zero=>exact h.elim
  | succ n=>
   have hX:=h
   simp only[rR] at h
   cases hq:mh aY ops.toList tm L ops.toList 0 with
   | some im=>
    obtain⟨i,mm⟩:=im
    rw[hq] at h
    simp only at h
    obtain⟨hil,h⟩:=bq default h
    obtain⟨k,o,d,hk,hik,hun,hwt,hrd,hdst,hfree⟩:=mq hq
    rw[Nat.zero_add] at hik
    subst hik
    have hnth:nth default ops.toList i=o:=by rw[bw,hk];rfl
    rw[hnth] at h
    have hops:ops[i]? = some o:=by rw[← Array.getElem?_toList];exact hk
    have hF:=Bx (by simpa using hil) hfree
    have hiL:i<L.length:=by rw[hsim.len];simpa using hil
    have hL':L'.getD i false=false:=by
     cases hc:L'.getD i false with
     | false=>rfl
     | true=>rw[hsim.sub i hc] at hun;cases hun
    have key : ∀ (v:Value) (sv:SV) (dep:pS),dt bs sv v→j5 cs dep→(Region.wanted o (yielded ops a)=true∧(∀ w,ma w0 R av bs cs D dep w→(execOp (Act.eval ⟨a,[]⟩) o).run P w = .ok (.value v) w)∨(Region.wanted o (yielded ops a)=false∧v=undef))→
     ∀ tm',a_ bs tm' (a.setIfInBounds d v)→d<a.size→rR P aY w0 R av ops.toList n (kQ L i) ((i,dep)::E) tm' bs cs D K→wpAny P .any ops Q m L' ⟨a',[]⟩ w:=by
     intro v sv dep hsv hdi hy tm' hf' hda hx
     refine ih n m (kQ L i) L' ((i,dep)::E) tm' bs cs D (a.setIfInBounds d v) a' w (by omega) hm hx hf' hst ?_
     have hlook : ∀ (k:Nat) (ok:Oper),ops[k]? = some ok→(k=i∨eC L k=true)→looks ops.toList d ok=false:=by
      intro k ok hk' hor
      cases hl:looks ops.toList d ok with
      | false=>rfl
      | true=>
       rcases hor with rfl | hor
       · rw[hops] at hk';cases hk';rw[hF.own] at hl;cases hl
       · have hki:k≠i:=fun e=>by subst e;rw[hun] at hor;cases hor
         have:=hF.looked k ok (by rw[Array.getElem?_toList];exact hk') hki hl
         obtain⟨e,he,hb,rfl⟩:=eo.1 this
         have:=cG.1 (hsim.closed k ok hk' hor) e he hb
         rw[hun] at this
         cases this
     have hsame : ∀ (k:Nat) (ok:Oper),ops[k]? = some ok→(k=i∨eC L k=true)→
      execOp (Act.eval ⟨a.setIfInBounds d v,[]⟩) ok=execOp (Act.eval ⟨a,[]⟩) ok∧Region.wanted ok (yielded ops (a.setIfInBounds d v))=Region.wanted ok (yielded ops a):=by
      intro k ok hk' hor
      refine fm (jv hns k ok (by rw[Array.getElem?_toList];exact hk')) fun t ht=>?_
      refine og fun e=>?_
      subst e
      rw[hlook k ok hk' hor] at ht
      cases ht
     refine⟨by rw[nK];simp[hsim.len],hsim.len',fun k hk'=>(dm hiL).2 (.inr (hsim.sub k hk')),?_,hsim.closed',by simp[hsim.size],?_,?_⟩
     · intro k ok hk' hkL
       refine cG.2 fun e he hb=>(dm hiL).2 (.inr ?_)
       rcases(dm hiL).1 hkL with rfl | hkL
       · rw[hops] at hk';cases hk'
         exact cG.1 hwt e he hb
       · exact cG.1 (hsim.closed k ok hk' hkL) e he hb
     · intro t ht
       have htd:d≠t:=fun e=>ht i o hops ((dm hiL).2 (.inl rfl)) hL' (by rw[hdst,e])
       rw[og htd]
       exact hsim.agree t fun k ok hk' hkL hkL'=>ht k ok hk' ((dm hiL).2 (.inr hkL)) hkL'
     · intro k hkL1 hkL'
       rcases(dm hiL).1 hkL1 with rfl | hkL
       · refine⟨o,d,dep,v,hops,hdst,List.mem_cons_self ..,hF,s9 hda,hdi,?_⟩
         obtain⟨e1,e2⟩:=hsame k o hops (.inl rfl)
         rw[e1,e2]
         rcases hy with⟨y1,y2⟩ | y
         · exact .inl ⟨y1,y2⟩
         · exact .inr y
       · obtain⟨o1,d1,m1,v1,g1,g2,g3,g4,g5,gd,g6⟩:=hsim.early k hkL hkL'
         have hki:k≠i:=fun e=>by subst e;rw[hun] at hkL;cases hkL
         have hdd:d≠d1:=fun e=>by
          subst e
          exact hF.alone k o1 (by rw[Array.getElem?_toList];exact g1) hki g2
         refine⟨o1,d1,m1,v1,g1,g2,List.mem_cons_of_mem _ g3,g4,by rw[og hdd];exact g5,gd,?_⟩
         obtain⟨e1,e2⟩:=hsame k o1 g1 (.inr hkL)
         rw[e1,e2]
         exact g6
    rcases mz hf h with⟨hw,h⟩ | ⟨hw,h⟩
    · obtain⟨v,sv,dep,h1,hdi,h2,h3⟩:=uu hT hf h
      rw[hdst] at h3
      obtain⟨hdl,h3⟩:=c_ h3
      obtain⟨tm',h4,h5⟩:=ib (hf.set d h2) h3
      exact key v sv dep h2 hdi (.inl ⟨hw,h1⟩) tm' h4 (by rw[← hf.len];exact hdl) h5
    · rw[hdst] at h
      obtain⟨hdl,h⟩:=c_ h
      exact key undef (.v undef) .none rfl trivial (.inr ⟨hw,rfl⟩) _ (hf.set d (s:=.v undef) rfl) (by rw[← hf.len];exact hdl) h
   | none=>
    rw[hq] at h
    simp only at h
    have hearly : ∀ (m' j:Nat),m=m'+1→j∈Region.ready .any ops L'→eC L j=true→wpOp P ops Q j (wpAny P .any ops Q m' (L'.setIfInBounds j true)) ⟨a',[]⟩ w:=by
     intro m' j hm' hj hjL
     obtain⟨hj0,o,hoj,hall⟩:=mem_ready.1 hj
     have hjs:j<ops.size:=bG hoj
     have hjL':L'.getD j false=false:=by rw[← iH (by rw[hsim.len'];exact hjs)];exact hj0
     obtain⟨o1,d,mm,v,g1,g2,g3,g4,g5,gd,g6⟩:=hsim.early j hjL hjL'
     rw[hoj] at g1
     cases g1
     obtain⟨e1,e2⟩:=fm (jv hns j o (by rw[Array.getElem?_toList];exact hoj)) (hsim.looked hoj hall hjL')
     have hcont:wpAny P .any ops Q m' (L'.setIfInBounds j true) (Act.put ⟨a',[]⟩ o.dst v) w:=by
      rw[g2]
      have hls:=n7 (by rw[hsim.len'];exact hjs) hjL'
      refine ih (n+1) m' L (L'.setIfInBounds j true) E tm bs cs D a (a'.setIfInBounds d v) w (by omega) (by omega) hX hf hst ?_
      have hset : ∀ k,(L'.setIfInBounds j true).getD k false=true↔k=j∨L'.getD k false=true:=fun k=>ri (by rw[hsim.len'];exact hjs)
      have hnot : ∀ k,(L'.setIfInBounds j true).getD k false=false→k≠j∧L'.getD k false=false:=fun k hk=>by
       refine⟨fun e=>?_,?_⟩
       · rw[(hset k).2 (.inl e)] at hk;cases hk
       · cases hc:L'.getD k false with
         | false=>rfl
         | true=>rw[(hset k).2 (.inr hc)] at hk;cases hk
      refine⟨hsim.len,by simp[hsim.len'],fun k hk=>?_,hsim.closed,pF hsim.closed' hoj hset hall,by simp[hsim.size],fun t ht=>?_,fun k hkL hkL'=>?_⟩
      · rcases(hset k).1 hk with rfl | hk
        · exact hjL
        · exact hsim.sub k hk
      · by_cases hdt:d=t
        · subst hdt
          rw[s9 (by rw[hsim.size];exact bG g5),g5]
        · rw[og hdt]
          refine hsim.agree t fun k ok hk hkL hkL'=>?_
          by_cases hkj:k=j
          · subst hkj
            rw[hoj] at hk
            cases hk
            rw[g2]
            simpa using hdt
          · refine ht k ok hk hkL ?_
            cases hc:(L'.setIfInBounds j true).getD k false with
            | false=>rfl
            | true=>
             rcases(hset k).1 hc with hc | hc
             · exact absurd hc hkj
             · rw[hkL'] at hc;cases hc
      · exact hsim.early k hkL (hnot k hkL').2
     unfold wpOp
     simp only[hoj]
     rcases g6 with⟨y1,y2⟩ | ⟨y1,rfl⟩
     · have hw:Region.wanted o (yielded ops a')=true:=by rw[e2];exact y1
       simp only[hw,if_true]
       exact .inl (fu (by rw[e1];exact y2 w (hst.dep gd)) hcont)
     · have hw:Region.wanted o (yielded ops a')=false:=by rw[e2];exact y1
       simp only[hw,Bool.false_eq_true,if_false]
       exact hcont
    have hlisted:Region.ready .any ops L' = []→∀ j,j<ops.size→L'.getD j false=true:=by
     intro hr j hj
     refine pJ (l:=ops.toList) hbk (p:=fun j=>L'.getD j false) (fun k ok hk hpk hall=>?_) j (by simpa using hj)
     have hks:k<ops.size:=bG (by rw[← Array.getElem?_toList];exact hk)
     have:k∈Region.ready .any ops L':=mem_ready.2 ⟨by rw[iH (by rw[hsim.len'];exact hks)];exact hpk,ok,by rw[← Array.getElem?_toList];exact hk,
      fun e he hb=>hall e (Array.mem_toList_iff.2 he) hb⟩
     rw[hr] at this
     cases this
    have hleft:left L'=0→Region.ready .any ops L' = []:=by
     intro h0
     cases hr:Region.ready .any ops L' with
     | nil=>rfl
     | cons j r=>
      have hj:j∈Region.ready .any ops L':=by rw[hr];exact List.mem_cons_self ..
      obtain⟨hj0,o,hoj,hall⟩:=mem_ready.1 hj
      have hjs:j<ops.size:=bG hoj
      have:=n7 (L':=L') (i:=j) (by rw[hsim.len'];exact hjs) (by rw[← iH (by rw[hsim.len'];exact hjs)];exact hj0)
      omega
    cases hrl:gV L ops.toList 0 with
    | nil=>
     rw[hrl] at h
     simp only at h
     have hLall : ∀ j,j<ops.size→eC L j=true:=by
      intro j hj
      refine pJ (l:=ops.toList) hbk (p:=fun j=>eC L j) (fun k ok hk hpk hall=>?_) j (by simpa using hj)
      have:k∈gV L ops.toList 0:=iB.2 ⟨k,ok,hk,by omega,hpk,cG.2 hall⟩
      rw[hrl] at this
      cases this
     have hdone:Region.ready .any ops L' = []→Q .normal ⟨a',[]⟩ w:=by
      intro hr
      have:a'=a:=by
       refine Array.ext_getElem? fun t=>hsim.agree t fun k ok hk _ hkL'=>?_
       rw[hlisted hr k (bG hk)] at hkL'
       cases hkL'
      subst this
      exact hQ _ _ ⟨rfl,tm,bs,cs,D,hf,hst,h⟩
     cases m with
     | zero=>exact⟨hleft (by omega),hdone (hleft (by omega))⟩
     | succ m=>
      refine⟨hdone,fun j hj=>hearly m j rfl hj (hLall j ?_)⟩
      obtain⟨_,o,hoj,_⟩:=mem_ready.1 hj
      exact bG hoj
    | cons j0 r0=>
     rw[hrl] at h
     simp only at h
     have hj0:j0∈gV L ops.toList 0:=by rw[hrl];exact List.mem_cons_self ..
     have hno:Region.ready .any ops L'≠[]:=by
      intro hr
      obtain⟨k,ok,hk,hjk,hun,_⟩:=iB.1 hj0
      rw[Nat.zero_add] at hjk
      subst hjk
      have hks:j0<ops.size:=bG (by rw[← Array.getElem?_toList];exact hk)
      rw[hsim.sub j0 (hlisted hr j0 hks)] at hun
      cases hun
     cases m with
     | zero=>exact absurd (hleft (by omega)) hno
     | succ m=>
      refine⟨fun hr=>absurd hr hno,fun j hj=>?_⟩
      cases hjL:eC L j with
      | true=>exact hearly m j rfl hj hjL
      | false=>
       obtain⟨hjt,o,hoj,hall⟩:=mem_ready.1 hj
       have hjs:j<ops.size:=bG hoj
       have hojl:ops.toList[j]? = some o:=by rw[Array.getElem?_toList];exact hoj
       have hjL':L'.getD j false=false:=by rw[← iH (by rw[hsim.len'];exact hjs)];exact hjt
       have hwL:dG L o.after.toList=true:=cG.2 fun e he hb=>hsim.sub _ (hall e (Array.mem_toList_iff.1 he) hb)
       have hjr:j∈j0::r0:=by rw[← hrl];exact iB.2 ⟨j,o,hojl,by omega,hjL,hwL⟩
       have hS:=uD h j hjr
       obtain⟨_,hS⟩:=bq o hS
       have hnth:nth o ops.toList j=o:=by rw[bw,hojl];rfl
       rw[hnth] at hS
       obtain⟨e1,e2⟩:=fm (jv hns j o hojl) (hsim.looked hoj hall hjL')
       have hiL:j<L.length:=by rw[hsim.len];exact hjs
       have hls:=n7 (L':=L') (i:=j) (by rw[hsim.len'];exact hjs) hjL'
       have hset : ∀ k,(L'.setIfInBounds j true).getD k false=true↔k=j∨L'.getD k false=true:=fun k=>ri (by rw[hsim.len'];exact hjs)
       have key : ∀ (v:Value) (w':World) (tm':List SV) (bs':List (Nat×Nat)) (cs':List (List Value)) (D':Fx),a_ bs' tm' (Act.put ⟨a,[]⟩ o.dst v).tmps→St w0 R av w' bs' cs' D'→
        (∀ i dep,(i,dep)∈jX ops.toList o.after.toList E→(j5 cs dep→j5 cs' dep)∧∀ w,j5 cs dep→ma w0 R av bs' cs' D' dep w→ma w0 R av bs cs D dep w)→
        rR P aY w0 R av ops.toList n (kQ L j) (jX ops.toList o.after.toList E) tm' bs' cs' D' K→
        wpAny P .any ops Q m (L'.setIfInBounds j true) ⟨(Act.put ⟨a',[]⟩ o.dst v).tmps,[]⟩ w':=by
        intro v w' tm' bs' cs' D' hf' hst' hheld hx
        refine ih n m (kQ L j) (L'.setIfInBounds j true) _ tm' bs' cs' D' _ _ w' (by omega) (by omega) hx hf' hst' ?_
        have hput : ∀ (b:Array Value) t,o.dst≠some t→(Act.put ⟨b,[]⟩ o.dst v).tmps[t]? = b[t]?:=by
         intro b t ht
         cases hd:o.dst with
         | none=>rfl
         | some d=>exact og (fun e=>ht (by rw[hd,e]))
        have hnot : ∀ k,(L'.setIfInBounds j true).getD k false=false→k≠j∧L'.getD k false=false:=fun k hk=>by
         refine⟨fun e=>?_,?_⟩
         · rw[(hset k).2 (.inl e)] at hk;cases hk
         · cases hc:L'.getD k false with
           | false=>rfl
           | true=>rw[(hset k).2 (.inr hc)] at hk;cases hk
        have hsz : ∀ b:Array Value,(Act.put ⟨b,[]⟩ o.dst v).tmps.size=b.size:=by
         intro b
         cases o.dst<;>simp[Act.put]
        refine⟨by rw[nK];simp[hsim.len],by simp[hsim.len'],fun k hk=>?_,fun k ok hk hkL=>?_,pF hsim.closed' hoj hset hall,by rw[hsz,hsz,hsim.size],fun t ht=>?_,fun k hkL hkL'=>?_⟩
        · rcases(hset k).1 hk with rfl | hk
          · exact(dm hiL).2 (.inl rfl)
          · exact(dm hiL).2 (.inr (hsim.sub k hk))
        · refine cG.2 fun e he hb=>(dm hiL).2 (.inr ?_)
          rcases(dm hiL).1 hkL with rfl | hkL
          · rw[hoj] at hk;cases hk
            exact cG.1 hwL e he hb
          · exact cG.1 (hsim.closed k ok hk hkL) e he hb
        · by_cases hdt:o.dst=some t
          · rw[hdt]
            show(a'.setIfInBounds t v)[t]? = (a.setIfInBounds t v)[t]?
            rw[Array.getElem?_setIfInBounds,Array.getElem?_setIfInBounds,hsim.size]
            simp
          · rw[hput a' t hdt,hput a t hdt]
            refine hsim.agree t fun k ok hk hkL hkL'=>?_
            have hkj:k≠j:=fun e=>by subst e;rw[hjL] at hkL;cases hkL
            refine ht k ok hk ((dm hiL).2 (.inr hkL)) ?_
            cases hc:(L'.setIfInBounds j true).getD k false with
            | false=>rfl
            | true=>
             rcases(hset k).1 hc with hc | hc
             · exact absurd hc hkj
             · rw[hkL'] at hc;cases hc
        · obtain⟨hkj,hkL'⟩:=hnot k hkL'
          have hkL2:eC L k=true:=((dm hiL).1 hkL).resolve_left hkj
          obtain⟨o1,d1,m1,v1,g1,g2,g3,g4,g5,gd,g6⟩:=hsim.early k hkL2 hkL'
          have hdd:o.dst≠some d1:=g4.alone j o hojl (Ne.symm hkj)
          have hin:(k,m1)∈jX ops.toList o.after.toList E:=by
           refine rn g3 ?_
           cases hc:lx ops.toList 3 k o.after.toList with
           | false=>rfl
           | true=>
            rw[mw hsim.closed' 3 (fun e he hb=>hall e (Array.mem_toList_iff.1 he) hb) hc] at hkL'
            cases hkL'
          refine⟨o1,d1,m1,v1,g1,g2,hin,g4,by rw[hput a d1 hdd];exact g5,(hheld k m1 hin).1 gd,?_⟩
          obtain⟨f1,f2⟩:=fm (ops:=ops) (a:=a) (a':=(Act.put ⟨a,[]⟩ o.dst v).tmps) (jv hns k o1 (by rw[Array.getElem?_toList];exact g1)) fun t ht=>by
           refine hput a t fun hd=>?_
           have:=g4.looking j o t hojl (Ne.symm hkj) hd ht
           obtain⟨e,he,hb,rfl⟩:=eo.1 this
           have:=cG.1 (hsim.closed k o1 g1 hkL2) e he hb
           rw[hjL] at this
           cases this
          rw[f1,f2]
          rcases g6 with⟨y1,y2⟩ | y
          · exact .inl ⟨y1,fun w hw=>y2 w ((hheld k m1 hin).2 w gd hw)⟩
          · exact .inr y
       unfold wpOp
       simp only[hoj]
       rcases mz hf hS with⟨hw,hS⟩ | ⟨hw,hS⟩
       · have hw':Region.wanted o (yielded ops a')=true:=by rw[e2];exact hw
         simp only[hw',if_true]
         refine .inl (ym e1 (fun act w h=>h.1) ?_ (lr hT hf hst hS _))
         rintro v w' ⟨hd,tm',bs',cs',D',h1,h2,h3⟩
         obtain⟨h3,h4⟩:=uU (w0:=w0) (R:=R) (av:=av) h3
         obtain⟨tm2,h5,h6⟩:=ib h1 h3
         have:=key v w' tm2 bs' cs' D' h5 h2 h4 h6
         rwa [← gE (put_defers _ _ _)] at this
       · have hw':Region.wanted o (yielded ops a')=false:=by rw[e2];exact hw
         simp only[hw',Bool.false_eq_true,if_false]
         obtain⟨tm',h1,h2⟩:=hf.put o.dst (s:=.v undef) (y:=undef) rfl hS
         have:=key undef w tm' bs cs D h1 hst (fun _ _ _=>⟨fun h=>h,fun w _ h=>h⟩) h2
         rwa [← gE (put_defers _ _ _)] at this
def rH:List Oper→(List Bool→Prop)→Prop
 | [],K=>K []
 | _::r,K=>rH r fun l=>K (false::l)
theorem lW : ∀ {l:List Oper} {K:List Bool→Prop},rH l K→K (List.replicate l.length false)
 | [],_,h=>h
 | _::r,K,h=>lW (l:=r) h
theorem az.draw (hT:bB P aY) (hm:P.follows .mixedOrders=true) {id:Nat} {l:List Oper} {tm:List SV} {bs:List (Nat×Nat)} {cs:List (List Value)} {D:Fx} {K:Exit→KT} (hns:s_ l=true)
 (hbk:jA l 0=true) (h:rH l fun L=>rR P aY w0 R av l 1000 L [] tm bs cs D (K .normal)):az P w0 R av (.region id ⟨l⟩ true) tm bs cs D K:=by
 have h:=lW h
 refine bU.2 fun a w hf hst=>wp_region_any hm ?_
 have hst':St w0 R av { w with drawn:=w.drawn+1 } bs cs D:=hst.ra ⟨rfl,rfl,rfl,Nat.le_refl _,fun b o ho=>⟨o,ho,.refl _ _⟩⟩
 have hnB : ∀ i,eC (List.replicate l.length false) i=false:=fun i=>by
  rw[nv,List.getElem?_replicate]
  split<;>rfl
 refine vw hT (ops:=⟨l⟩) hns hbk (K:=K .normal) (fun act w h=>h) _ 1000 _ (List.replicate l.length false) _ [] tm bs cs D a a _ (Nat.le_refl _) ?_ h hf hst' ?_
 · unfold left
   simp
 · refine⟨by simp,by simp,fun i hi=>?_,fun i o _ hi=>?_,fun i o _ hi=>?_,rfl,fun _ _=>rfl,fun i hi=>?_⟩
   · simp[Array.getD] at hi
   · rw[hnB] at hi;cases hi
   · simp[Array.getD] at hi
   · rw[hnB] at hi;cases hi
theorem xz.same : ∀ {bs:List (Nat×Nat)} {cs:List (List Value)},bs.length=cs.length→xz bs cs bs cs
 | [],[],_=>trivial
 | _::_,_::_,h=>⟨⟨rfl,rfl⟩,xz.same (by simpa using h)⟩
 | [],_::_,h=>by simp at h
 | _::_,[],h=>by simp at h
theorem ax.left (F F':Fx):ax (F.and F') F:=.of_le ⟨List.sublist_append_left _ _,fun _ h=>h.1⟩
theorem cj.call {bs bs':List (Nat×Nat)} {cs cs':List (List Value)} {F F':Fx} {K:Prop} (hl:0=0) (h:K):cj bs cs F bs' cs' (F.and F') K:=⟨ax.left _ _,h⟩
theorem cj.same {bs bs':List (Nat×Nat)} {cs cs':List (List Value)} {F:Fx} {K:Prop} (hl:0=0) (h:K):cj bs cs F bs' cs' F K:=⟨ax.refl _,h⟩
theorem cj.row {bs bs':List (Nat×Nat)} {cs cs':List (List Value)} {F:Fx} {rs:List (Nat×Row)} {K:Prop} (hl:0=0) (h:K):cj bs cs F bs' cs' ⟨F.D,F.rs++rs⟩ K:=
 ⟨.of_le ⟨List.sublist_append_left _ _,fun _ h=>h⟩,h⟩
end
end Go.Sx
namespace Go.Sx
set_option linter.unusedVariables false
def ea (x:UInt8):Value:=.int .u8 (x.toNat:Int)
def ai (w:World) (a:Option Addr) (L:List Value):Prop:=
 match a with
 | none=>L = []
 | some ad=>L = []∨(ad.spot=none∧∃ arr e fz,w.heap[ad.block]? = some (.cells arr e fz)∧∀ j,j<L.length→arr[ad.off+j]? = L[j]?)
theorem ai.there {w:World} {ad:Addr} {L:List Value} (h:ai w (some ad) L) (hn:L≠[]):ad.spot=none∧∃ arr e fz,w.heap[ad.block]? = some (.cells arr e fz)∧∀ j,j<L.length→arr[ad.off+j]? = L[j]?:=
 h.resolve_left hn
theorem ai.w_ {w:World} (a:Option Addr):ai w a []:=by
 cases a with
 | none=>rfl
 | some ad=>exact .inl rfl
theorem ne_of_lt {α:Type} {L:List α} {j:Nat} (h:j<L.length):L≠[]:=by
 rintro rfl
 simp at h
theorem ai.Em {w:World}:ai w none []:=rfl
theorem ai.r9 {w:World} {L:List Value} (h:ai w none L):L = []:=h
theorem ai.cell {w:World} {ad:Addr} {L:List Value} (h:ai w (some ad) L) {j:Nat} (hj:j<L.length):w.cell? (ad.add j)=L[j]?:=by
 obtain⟨hs,arr,e,fz,h1,h2⟩:=h.there (ne_of_lt hj)
 obtain⟨b,o,s⟩:=ad
 simp at hs
 subst hs
 rw[Addr.bE]
 simp[World.cell?,h1,h2 j hj]
theorem Addr.bD {ad:Addr} (h:ad.spot=none) (m n:Nat):(ad.add m).add n=ad.add (m+n):=by
 obtain⟨b,o,s⟩:=ad
 simp at h
 subst h
 simp[Addr.bE,Nat.add_assoc]
theorem ai.drop {w:World} {ad:Addr} {L:List Value} (h:ai w (some ad) L) (k:Nat):ai w (some (ad.add k)) (L.drop k):=by
 rcases h with rfl | ⟨hs,arr,e,fz,h1,h2⟩
 · exact .inl (by simp)
 obtain⟨b,o,s⟩:=ad
 simp at hs
 subst hs
 rw[Addr.bE]
 refine .inr ⟨rfl,arr,e,fz,h1,fun j hj=>?_⟩
 simp at hj
 rw[Nat.add_assoc,h2 _ (by omega),List.getElem?_drop]
theorem ai.take {w:World} {a:Option Addr} {L:List Value} (h:ai w a L) (k:Nat):ai w a (L.take k):=by
 cases a with
 | none=>rw[ai.r9 h];simp[ai]
 | some ad=>
  rcases h with rfl | ⟨hs,arr,e,fz,h1,h2⟩
  · exact .inl (by simp)
  refine .inr ⟨hs,arr,e,fz,h1,fun j hj=>?_⟩
  simp at hj
  rw[h2 _ (by omega),List.getElem?_take,if_pos (by omega)]
theorem ai.nil {w:World} {a:Option Addr} {L:List Value} (h:ai w a L):ai w a []:=by simpa using h.take 0
theorem ai.zU {w:World} {b:Nat} {C:List Value} (h:fZ w b C):ai w (some ⟨b,0,none⟩) C:=by
 obtain⟨e,h⟩:=h
 exact .inr ⟨rfl,C.toArray,e,_,h,fun j hj=>by simp⟩
theorem ai.zc {w:World} {b o:Nat} {C:List Value} (h:Range w b o C):ai w (some ⟨b,o,none⟩) C:=by
 obtain⟨arr,e,h1,h2⟩:=h
 exact .inr ⟨rfl,arr,e,_,h1,h2⟩
theorem ai.holds {av:Nat→Prop} {w:World} {ad:Addr} {L:List Value} (h:ai w (some ad) L) (ha : ¬ av ad.block):Holds av w (fun w=>ai w (some ad) L):=by
 rcases h with rfl | ⟨hs,arr,e,fz,h1,h2⟩
 · exact⟨fun _=>False,fun _ h=>h.elim,fun _ _=>.inl rfl⟩
 exact Holds.block ad.block (bG h1) ha fun w' hw=>.inr ⟨hs,arr,e,fz,by rw[hw,h1],h2⟩
section
variable {P:Program} {aY:er} {w0:World} {R:Nat→Nat→Prop} {av:Nat→Prop} {bs:List (Nat×Nat)} {cs:List (List Value)} {F:Fx}
def aK (w0:World) (R:Nat→Nat→Prop) (av:Nat→Prop) (bs:List (Nat×Nat)) (cs:List (List Value)) (F:Fx) (a:Option Addr) (L:List Value):Prop:=∀ w,St w0 R av w bs cs F→ai w a L
theorem aK.fact {a:Option Addr} {L:List Value} (h : ∀ w,F.D w→ai w a L):aK w0 R av bs cs F a L:=fun w hst=>h w hst.now
theorem aK.row {b:Nat} {C:List Value} (h:(b,Row.c C)∈F.rs):aK w0 R av bs cs F (some ⟨b,0,none⟩) C:=fun w hst=>.zU (hst.rows _ h).1
theorem aK.take {a:Option Addr} {L:List Value} (h:aK w0 R av bs cs F a L) (k:Nat):aK w0 R av bs cs F a (L.take k):=fun w hst=>(h w hst).take k
theorem aK.eq {a:Option Addr} {L L':List Value} (h:aK w0 R av bs cs F a L) (e:L=L'):aK w0 R av bs cs F a L':=e ▸ h
theorem ar.aj {m:Sem Value} {K:KV} (h:ak P w0 R av m bs cs F fun v=>K v bs cs F):ar P w0 R av m bs cs F K:=by
 obtain⟨v,h1,h2⟩:=(bc _ _ _ _).1 h
 exact cM.2 fun w hst=>⟨v,w,[],cs,F,h1 w hst,by rw[List.append_nil];exact hst,by rw[List.append_nil];exact h2⟩
theorem da {d:TypeDesc} {e:TypeId} (h:dK d = .slice e):d = .slice e:=by
 cases d<;>simp[dK] at h
 rw[h]
theorem ak.index (hT:bB P aY) {t:TypeId} {ti te:TI} {e:TypeId} (ht:look aY t=some ti) (hk:ti.k = .slice e) (he:look aY e=some te) {a:Option Addr} {n c:Nat} {k:IntKind} {i:Int} {K:Value→Prop}
 (h0:0≤i) (h1:i<n) (ha:a=none→n=0) (h : ∀ ad,a=some ad→K (.pointer (some (ad.add (i.toNat*te.size))))) :
 ak P w0 R av (Instr.indexAt t (.slice a n c) (.int k i)) bs cs F K:=by
 cases a with
 | none=>have:=ha rfl;omega
 | some ad=>
  refine(bc _ _ _ _).2 ⟨_,fun w _=>?_,h ad rfl⟩
  obtain⟨i1,d1,z1,p1,p2,p3,p4,p5,p6,p7,p8⟩:=aN (hT _ _ ht)
  obtain⟨i2,d2,z2,q1,q2,q3,q4,q5,q6,q7,q8⟩:=aN (hT _ _ he)
  rw[p4] at hk
  obtain rfl:=da hk
  unfold Instr.indexAt
  rw[an (m:=asIntOf (.int k i)) (a:=(k,i)) (w':=w) rfl]
  simp only
  rw[an (aM p2 w)]
  simp only
  rw[an (run_pure P _ w),an (aM p2 w)]
  simp only
  rw[if_pos ⟨h0,h1⟩,an (run_sizeOf q1 w),← q5]
  rfl
theorem ak.load (hT:bB P aY) {t:TypeId} {ti:TI} (ht:look aY t=some ti) (hk:ti.k.agg=false) {p ad:Addr} {k:Nat} {L:List Value} {v:Value} {K:Value→Prop}
 (hs:aK w0 R av bs cs F (some ad) L) (hp:p=ad.add k) (hv:L[k]? = some v) (h:K v):ak P w0 R av (Instr.loadAt t (.pointer (some p))) bs cs F K:=by
 subst hp
 refine(bc _ _ _ _).2 ⟨v,fun w hst=>?_,h⟩
 show(loadVar t (ad.add k)).run P w=_
 have hlt:k<L.length:=(List.getElem?_eq_some_iff.1 hv).1
 exact ef (hT _ _ ht) hk (by rw[(hs w hst).cell hlt,hv])
theorem ak.aQ (hT:bB P aY) {t:TypeId} {ti:TI} (ht:look aY t=some ti) (hk:ti.k.agg=true) {p ad:Addr} {k:Nat} {L m:List Value} {K:Value→Prop}
 (hs:aK w0 R av bs cs F (some ad) L) (hp:p=ad.add k) (hm:(L.drop k).take ti.size=m) (hl:m.length=ti.size) (h:K (.agg ⟨m⟩)):ak P w0 R av (Instr.loadAt t (.pointer (some p))) bs cs F K:=by
 subst hp
 refine(bc _ _ _ _).2 ⟨_,fun w hst=>?_,h⟩
 show(loadVar t (ad.add k)).run P w=_
 have hr:=(hs w hst)
 rcases hr with he | hr
 · subst he
   simp at hm
   subst hm
   obtain⟨i1,d1,z1,p1,p2,p3,p4,p5,p6,p7,p8⟩:=aN (hT _ _ ht)
   unfold loadVar
   rw[an (dW p2 w),← p4,hk]
   simp only[if_true]
   rw[an (run_sizeOf p1 w),← p5,← hl]
   rfl
 have hsp:ad.spot=none:=hr.1
 have hr:ai w (some ad) L:=.inr hr
 obtain⟨b,o,s⟩:=ad
 simp at hsp
 subst hsp
 rw[Addr.bE]
 refine ei (hT _ _ ht) hk m hl fun j hj=>?_
 have:=hr.cell (j:=k+j) (by rw[← hm] at hj;simp at hj;omega)
 rw[Addr.bE,← Nat.add_assoc] at this
 rw[this,← hm,List.getElem?_take,if_pos (by omega),List.getElem?_drop]
def jM (a:Option Addr) (l m size:Nat):Option Addr:=if m=l then a else a.map (·.add (l*size))
theorem ai.cut {w:World} {a:Option Addr} {L:List Value} (h:ai w a L) {l hi m size:Nat} (hm:l≤hi∧hi≤m):ai w (jM a l m size) ((L.drop (l*size)).take ((hi - l)*size)):=by
 unfold jM
 split
 · have:hi - l=0:=by omega
   rw[this]
   simpa using h.nil
 · cases a with
   | none=>rw[ai.r9 h];simp[ai]
   | some ad=>exact(h.drop _).take _
theorem fR {P:Program} {w:World} {k:IntKind} {i:Int} {y:Nat} {code:BoundsCode} (h0:0≤i) (h1:i≤y):(Instr.sliceBound (.int k i) y code).run P w = .ok i.toNat w:=by
 unfold Instr.sliceBound
 rw[an (m:=asIntOf (.int k i)) (a:=(k,i)) (w':=w) rfl]
 simp only
 rw[if_pos ⟨h0,h1⟩]
 rfl
theorem ak.slice (hT:bB P aY) {t:TypeId} {ti te:TI} {e:TypeId} (ht:look aY t=some ti) (hk:ti.k = .slice e) (he:look aY e=some te) {a:Option Addr} {n c:Nat} {k1 k2 k3:IntKind}
 {lo hi mx:Option Int} {K:Value→Prop} (l h m:Nat) (hl:lo.getD 0=l) (hh:hi.getD n=h) (hm:mx.getD c=m) (h1:l≤h) (h2:h≤m) (h3:m≤c) (hx:mx.isSome=true→hi.isSome=true)
 (hK:K (.slice (jM a l m te.size) (h - l) (m - l))) :
 ak P w0 R av (Instr.sliceAt t (.slice a n c) (lo.map (.int k1)) (hi.map (.int k2)) (mx.map (.int k3))) bs cs F K:=by
 refine(bc _ _ _ _).2 ⟨_,fun w _=>?_,hK⟩
 obtain⟨i1,d1,z1,p1,p2,p3,p4,p5,p6,p7,p8⟩:=aN (hT _ _ ht)
 obtain⟨i2,d2,z2,q1,q2,q3,q4,q5,q6,q7,q8⟩:=aN (hT _ _ he)
 rw[p4] at hk
 obtain rfl:=da hk
 unfold Instr.sliceAt
 rw[an (aM p2 w)]
 simp only
 unfold Instr.slice
 rw[an (aM p2 w)]
 simp only
 have hb:(Instr.sliceBounds true n c (lo.map (.int k1)) (hi.map (.int k2)) (mx.map (.int k3))).run P w = .ok (l,h,m) w:=by
  unfold Instr.sliceBounds
  cases mx with
  | none=>
   obtain rfl:m=c:=by have:(c:Int)=m:=hm;omega
   cases hi with
   | none=>
    obtain rfl:h=n:=by have:(n:Int)=h:=hh;omega
    simp only[Option.map_none]
    rw[an (run_pure P _ w),an (run_pure P _ w)]
    cases lo with
    | none=>
     obtain rfl:l=0:=by have:(0:Int)=l:=hl;omega
     rfl
    | some i=>
     obtain rfl:i=(l:Int):=hl
     simp only[Option.map_some]
     rw[an (fR (by omega) (by omega))]
     rfl
   | some j=>
    obtain rfl:j=(h:Int):=hh
    simp only[Option.map_none,Option.map_some]
    rw[an (run_pure P _ w),an (fR (by omega) (by omega))]
    cases lo with
    | none=>
     obtain rfl:l=0:=by have:(0:Int)=l:=hl;omega
     rfl
    | some i=>
     obtain rfl:i=(l:Int):=hl
     simp only[Option.map_some]
     rw[an (fR (by omega) (by simp;omega))]
     rfl
  | some mm=>
   obtain rfl:mm=(m:Int):=hm
   cases hi with
   | none=>simp at hx
   | some j=>
    obtain rfl:j=(h:Int):=hh
    simp only[Option.map_some]
    rw[an (fR (by omega) (by omega)),an (fR (by omega) (by simp;omega))]
    cases lo with
    | none=>
     obtain rfl:l=0:=by have:(0:Int)=l:=hl;omega
     rfl
    | some i=>
     obtain rfl:i=(l:Int):=hl
     simp only[Option.map_some]
     rw[an (fR (by omega) (by simp;omega))]
     rfl
 rw[an hb]
 simp only
 rw[an (run_sizeOf q1 w),← q5]
 rfl
end
end Go.Sx
namespace Go.Sx
set_option linter.unusedVariables false
theorem tA (size:Nat) : ∀ (vs:List Value) (k:Nat) (pre z:List Value),pre.length=k*size→z.length=vs.length*size→(∀ v∈vs,v.cells.toList.length=size)→
 Instr.fill (fun i=>some (i*size,size)) ⟨pre++z⟩ ((vs.zipIdx k).map fun x=>(x.2,x.1))=some ⟨pre++vs.flatMap (·.cells.toList)⟩
 | [],k,pre,z,h1,h2,_=>by
  have:z = []:=List.eq_nil_of_length_eq_zero (by simpa using h2)
  subst this
  simp[Instr.fill]
 | v::vs,k,pre,z,h1,h2,h3=>by
  have hv:=h3 v (List.mem_cons_self ..)
  have hz:size≤z.length:=by rw[h2,List.length_cons,Nat.succ_mul];omega
  simp only[List.zipIdx_cons,List.map_cons]
  rw[lQ _ _ _ _ _ (k*size) size rfl hv (by rw[hv,List.length_append,h1];omega)]
  have e1:(pre++z).take (k*size)=pre:=by rw[← h1,List.take_left]
  have e2:(pre++z).drop (k*size+v.cells.toList.length)=z.drop size:=by
   rw[hv,← h1,List.drop_append,List.drop_of_length_le (by omega)]
   simp
  rw[e1,e2,tA size vs (k+1) (pre++v.cells.toList) (z.drop size) (by rw[List.length_append,h1,hv,Nat.succ_mul])
   (by rw[List.length_drop,h2,List.length_cons,Nat.succ_mul];omega) (fun u hu=>h3 u (List.mem_cons_of_mem _ hu))]
  simp
theorem St.newRow {w0:World} {R:Nat→Nat→Prop} {av:Nat→Prop} {w:World} {bs:List (Nat×Nat)} {cs:List (List Value)} {F:Fx} (h:St w0 R av w bs cs F) (c:List Value) (e:TypeId) :
 St w0 R av { w with heap:=w.heap.push (.cells c.toArray e) } bs cs ⟨F.D,F.rs ++ [(w.heap.size,Row.c c)]⟩:=by
 have hk:gj w { w with heap:=w.heap.push (.cells c.toArray e) }:=
  iv rfl rfl rfl (by simp) (fun b hb=>by simp[Array.getElem?_push,Nat.ne_of_lt hb])
 refine(h.kept (F':=⟨fun _=>True,[(w.heap.size,Row.c c)]⟩) hk ⟨fun r hr=>?_,by simp,.pure trivial⟩).bZ (ax.imp fun w h=>h.1)
 simp at hr
 subst hr
 exact⟨⟨e,by simp⟩,Nat.le_refl _⟩
structure cZ (sz n:Nat) (a:Option Addr) (cap:Nat) (C L:List Value):Prop where
 len:L.length=n*sz
 fit:n≤cap
 alt:(a=none∧C = []∧cap=0)∨∃ b,a=some ⟨b,0,none⟩∧C.length=cap*sz∧C.take (n*sz)=L
def bo (a:Option Addr) (C:List Value):List (Nat×Row):=match a with
 | none=>[]
 | some ad=>[(ad.block,C)]
theorem cZ.nil (sz:Nat):cZ sz 0 none 0 [] []:=⟨by simp,Nat.le_refl _,.inl ⟨rfl,rfl,rfl⟩⟩
theorem cZ.full {sz n:Nat} {b:Nat} {L:List Value} (h:L.length=n*sz):cZ sz n (some ⟨b,0,none⟩) n L L:=
 ⟨h,Nat.le_refl _,.inr ⟨b,rfl,h,by rw[← h];simp⟩⟩
theorem cZ.cJ {sz n:Nat} {a:Option Addr} {cap:Nat} {C L:List Value} (h:cZ sz n a cap C L) (ha:a=none):n=0:=by
 rcases h.alt with⟨_,_,h1⟩ | ⟨b,h1,_⟩
 · have:=h.fit;omega
 · rw[ha] at h1;cases h1
section
variable {P:Program} {aY:er} {w0:World} {R:Nat→Nat→Prop} {av:Nat→Prop} {bs:List (Nat×Nat)} {cs:List (List Value)} {F:Fx}
theorem cZ.at {w:World} {sz n:Nat} {a:Option Addr} {cap:Nat} {C L:List Value} (h:cZ sz n a cap C L) {r1 r2:List (Nat×Row)} {D:World→Prop}
 (hst:St w0 R av w bs cs ⟨D,r1++bo a C++r2⟩):ai w a L:=by
 rcases h.alt with⟨rfl,rfl,h3⟩ | ⟨b,rfl,h2,h3⟩
 · have:n=0:=by have:=h.fit;omega
   have hl:=h.len
   rw[this] at hl
   exact List.eq_nil_of_length_eq_zero (by simpa using hl)
 · have hm:(b,Row.c C)∈r1++bo (some ⟨b,0,none⟩) C++r2:=by simp[bo]
   rw[← h3]
   exact(ai.zU (hst.rows _ hm).1).take _
theorem cZ.share {sz n:Nat} {a:Option Addr} {cap:Nat} {C L:List Value} (h:cZ sz n a cap C L) {r1 r2:List (Nat×Row)} {D:World→Prop} :
 ax ⟨D,r1++bo a C++r2⟩ ⟨fun w=>D w∧ai w a L,r1++r2⟩:=by
 intro w0 R av w bs cs hst
 have hat:=h.at hst
 have hle:Fx.Le ⟨D,r1++bo a C++r2⟩ ⟨D,r1++r2⟩:=⟨by
  show(r1++r2).Sublist (r1++bo a C++r2)
  exact List.Sublist.append (List.sublist_append_left _ _) (List.Sublist.refl _),fun _ h=>h⟩
 have h2:=hst.imp hle
 refine⟨h2.keep,h2.box,h2.nd,h2.own,h2.avlt,h2.rows,Holds.and h2.data ?_⟩
 rcases h.alt with⟨rfl,rfl,h3⟩ | ⟨b,rfl,h2',h3⟩
 · exact Holds.pure (p:=L = []) hat
 · refine hat.holds ?_
   have hnd:=hst.nd
   simp only[bo,List.map_append,List.map_cons,List.map_nil] at hnd
   have hm:(b,Row.c C)∈r1++bo (some ⟨b,0,none⟩) C++r2:=by simp[bo]
   have hb0:=(hst.rows _ hm).2
   rintro(hb | ⟨x,hx,he⟩ | ⟨r,hr,he⟩)
   · rcases hb0 with hb0 | hb0
     · have h7:=hst.avlt b hb
       simp at hb0
       omega
     · exact hb0.1 hb
   · rw[List.nodup_append] at hnd
     exact hnd.2.2 x.1 (List.mem_map.2 ⟨x,hx,rfl⟩) b (by simp) he
   · rw[List.nodup_append] at hnd
     have h8:=hnd.2.1
     rw[List.append_assoc,List.nodup_append] at h8
     rcases List.mem_append.1 hr with hr | hr
     · exact h8.2.2 r.1 (List.mem_map.2 ⟨r,hr,rfl⟩) b (by simp) he
     · have:=h8.2.1
       simp only[List.singleton_append,List.nodup_cons] at this
       exact this.1 (List.mem_map.2 ⟨r,hr,he⟩)
end
end Go.Sx
namespace Go.Sx
set_option linter.unusedVariables false
section
variable {P:Program} {aY:er} {w0:World} {R:Nat→Nat→Prop} {av:Nat→Prop} {bs:List (Nat×Nat)} {cs:List (List Value)} {F:Fx}
theorem iJ (w:World) (e:TypeId) (c:List Value):(newRow e ⟨c⟩).run P w = .ok ⟨w.heap.size,0,none⟩ { w with heap:=w.heap.push (.cells c.toArray e) }:=rfl
theorem ar.build (hT:bB P aY) {t:TypeId} {ti te:TI} {e:TypeId} (ht:look aY t=some ti) (hk:ti.k = .slice e) (he:look aY e=some te) {ps:List (Nat×Value)} {n:Nat} {K:KV} (vs:List Value)
 (hps:ps=vs.zipIdx.map fun x=>(x.2,x.1)) (hn:n=vs.length) (hsz : ∀ v∈vs,v.cells.toList.length=te.size) (hroom:n*te.size≤2 ^ 24)
 (h : ∀ b,K (.slice (some ⟨b,0,none⟩) n n) bs cs ⟨F.D,F.rs ++ [(b,Row.c (vs.flatMap (·.cells.toList)))]⟩):ar P w0 R av (Instr.buildSlice t n ⟨ps⟩) bs cs F K:=by
 subst hps hn
 refine cM.2 fun w hst=>?_
 obtain⟨i1,d1,z1,p1,p2,p3,p4,p5,p6,p7,p8⟩:=aN (hT _ _ ht)
 obtain⟨i2,d2,z2,q1,q2,q3,q4,q5,q6,q7,q8⟩:=aN (hT _ _ he)
 rw[p4] at hk
 obtain rfl:=da hk
 refine⟨_,_,[],cs,_,?_,by rw[List.append_nil];exact hst.newRow (vs.flatMap (·.cells.toList)) e,by rw[List.append_nil];exact h _⟩
 unfold Instr.buildSlice
 rw[an (aM p2 w)]
 simp only
 rw[an (run_sizeOf q1 w),← q5,if_neg (by omega)]
 have key : ∀ z:Array Value,(match Instr.fill (fun i=>some (i*te.size,te.size)) (Array.map (fun x=>z[x%z.size]!) (Array.range (vs.length*te.size))) (List.map (fun x=>(x.snd,x.fst)) vs.zipIdx) with
  | some cells=>do
   let r ← newRow e cells
   pure (Value.slice (some r) vs.length vs.length)
  | _=>stuck "buildSlice: a part of the wrong size" : Sem Value).run P w =
  .ok (.slice (some ⟨w.heap.size,0,none⟩) vs.length vs.length) { w with heap:=w.heap.push (.cells (vs.flatMap (·.cells.toList)).toArray e) }:=by
  intro z
  have hf:=tA te.size vs 0 [] ((List.range (vs.length*te.size)).map (z[· % z.size]!)) (by simp) (by simp) hsz
  simp only[List.nil_append] at hf
  have hr:(Array.range (vs.length*te.size)).map (z[· % z.size]!)=⟨(List.range (vs.length*te.size)).map (z[· % z.size]!)⟩:=by
   apply Array.toList_inj.1
   simp
  rw[hr]
  simp only[hf]
  rw[an (iJ w e _)]
  rfl
 split
 · rw[an (run_pure P _ w)]
   exact key _
 · rw[an (eQ q1 q3 w),an (run_pure P _ w)]
   exact key _
theorem qV (newLen:Nat) : ∀ (k c:Nat),c≤newLen+(newLen+768)/4→Builtin.growBy newLen k c≤newLen+(newLen+768)/4
 | 0,c,h=>h
 | k+1,c,h=>by
  unfold Builtin.growBy
  split
  · exact h
  · exact qV newLen k _ (by omega)
theorem nextslicecap_le {need cap:Nat} (h:cap<need):Builtin.nextslicecap need cap≤2*need+1000:=by
 unfold Builtin.nextslicecap
 split
 · omega
 · split
   · omega
   · have:=qV need 4 cap (by omega)
     omega
theorem dU {w:World} {a:Option Addr} {n c m sz:Nat} {L:List Value} (h:ai w a L) (hL:L.length=m*sz):(Builtin.firstCells sz m (.slice a n c)).run P w = .ok ⟨L⟩ w:=by
 cases a with
 | none=>rw[ai.r9 h];rfl
 | some ad=>
  show(loadCells ad (m*sz)).run P w=_
  rw[← hL]
  rcases h with rfl | h
  · rfl
  have hsp:ad.spot=none:=h.1
  have h:ai w (some ad) L:=.inr h
  obtain⟨b,o,s⟩:=ad
  simp at hsp
  subst hsp
  refine run_loadCells L fun j hj=>?_
  have:=h.cell hj
  rwa [Addr.bE] at this
theorem j1 (z:List Value) (n:Nat):(Builtin.zeroCells ⟨z⟩ n).toList.length=n*z.length:=by
 unfold Builtin.zeroCells
 simp
theorem run_append_fits {w:World} {t xt ty e xe:TypeId} {i2:TypeInfo} (ht:P.underlying t=some (.slice e)) (hx:P.underlying xt=some (.slice xe)) (he:P.info? e=some i2) {a p:Option Addr} {n cap m cx:Nat}
 (hfit:n+m≤cap) {M:List Value} (hM:ai w p M) (hl:M.length=m*i2.size) {w':World} (hs : ∀ ad,a=some ad→(storeCells (ad.add (n*i2.size)) M).run P w = .ok () w') (hn:a=none→w'=w) :
 (Builtin.append_ #[t,xt] ty #[.slice a n cap,.slice p m cx]).run P w = .ok (.slice a (n+m) cap) w':=by
 unfold Builtin.append_
 simp only[show(#[t,xt]:Array TypeId)[0]? = some t from rfl,show(#[t,xt]:Array TypeId)[1]? = some xt from rfl,show ∀ u v:Value,(#[u,v]:Array Value)[0]? = some u from fun _ _=>rfl,
  show ∀ u v:Value,(#[u,v]:Array Value)[1]? = some v from fun _ _=>rfl]
 rw[an (aM ht w)]
 simp only
 rw[an (run_sizeOf he w),an (aM hx w),an (run_pure P _ w)]
 simp only[Bool.false_eq_true,if_false,Bool.not_false,if_true]
 rw[an (m:=Builtin.lenOf (.slice p m cx)) (a:=m) (w':=w) rfl]
 rw[if_pos hfit]
 rw[an (dU hM hl)]
 cases a with
 | none=>rw[hn rfl];rfl
 | some ad=>
  simp only
  rw[an (hs ad rfl)]
  rfl
theorem run_askRoom (w:World) (n:Nat):(askRoom n).run P w = .ok () w:=by
 unfold askRoom
 split<;>rfl
theorem gx {w:World} {t xt ty e xe:TypeId} {i2:TypeInfo} {z:Value} (ht:P.underlying t=some (.slice e)) (hx:P.underlying xt=some (.slice xe)) (he:P.info? e=some i2) (hz:i2.zero=some z)
 {a p:Option Addr} {n cap m cx:Nat} (hfit : ¬ n+m≤cap) {L M:List Value} (hL:ai w a L) (hl:L.length=n*i2.size) (hM:ai w p M) (hm:M.length=m*i2.size) (hlen:n+m≤4611686018427387904)
 (hroom:Builtin.nextslicecap (n+m) cap*i2.bytes≤2 ^ 48) :
 ∃ newCap,n+m≤newCap∧(Builtin.append_ #[t,xt] ty #[.slice a n cap,.slice p m cx]).run P w =
  .ok (.slice (some ⟨w.heap.size,0,none⟩) (n+m) newCap)
   { w with heap:=w.heap.push (.cells (L++M++(Builtin.zeroCells z.cells (newCap - (n+m))).toList).toArray e),drawn:=w.drawn+1 }:=by
 refine⟨Question.cut (.appendCap (n+m) cap e) (w.tape w.drawn (.appendCap (n+m) cap e)),by simp[Question.cut],?_⟩
 have hcap : ¬ Builtin.nextslicecap (n+m) cap*i2.bytes>2 ^ 48:=by omega
 have hmax : ¬ ((n+m:Nat):Int)>IntKind.i64.max:=by
  have:IntKind.i64.max=9223372036854775807:=by decide
  rw[this]
  omega
 unfold Builtin.append_
 simp only[show(#[t,xt]:Array TypeId)[0]? = some t from rfl,show(#[t,xt]:Array TypeId)[1]? = some xt from rfl,show ∀ u v:Value,(#[u,v]:Array Value)[0]? = some u from fun _ _=>rfl,
  show ∀ u v:Value,(#[u,v]:Array Value)[1]? = some v from fun _ _=>rfl]
 rw[an (aM ht w)]
 simp only
 rw[an (run_sizeOf he w),an (aM hx w),an (run_pure P _ w)]
 simp only[Bool.false_eq_true,if_false,Bool.not_false,if_true]
 rw[an (m:=Builtin.lenOf (.slice p m cx)) (a:=m) (w':=w) rfl]
 rw[if_neg hfit]
 rw[an (run_typeInfo he w),if_neg (fun h=>hmax h.1)]
 rw[an (run_typeInfo he w),if_neg hcap]
 rw[an (m:=choose _) (w':={ w with drawn:=w.drawn+1 }) rfl]
 rw[an (run_typeInfo he _),an (run_askRoom _ _)]
 rw[an (dU (L:=L) (by exact hL) hl),an (dU (L:=M) (by exact hM) hm)]
 rw[an (eQ he hz _)]
 have hc:(⟨L⟩:Array Value)++⟨M⟩++Builtin.zeroCells z.cells (Question.cut (.appendCap (n+m) cap e) (w.tape w.drawn (.appendCap (n+m) cap e)) - (n+m)) =
  ⟨L++M++(Builtin.zeroCells z.cells (Question.cut (.appendCap (n+m) cap e) (w.tape w.drawn (.appendCap (n+m) cap e)) - (n+m))).toList⟩:=by
  apply Array.toList_inj.1
  simp
 rw[hc,an (iJ _ e _)]
 rfl
theorem lu {w:World} {t xt ty e xe:TypeId} {i2:TypeInfo} {z:Value} (ht:P.underlying t=some (.slice e)) (hx:P.underlying xt=some (.slice xe)) (he:P.info? e=some i2) (hz:i2.zero=some z)
 {a p:Option Addr} {n cap m cx:Nat} (hfit : ¬ n+m≤cap) {L M:List Value} (hL:ai w a L) (hl:L.length=n*i2.size) (hM:ai w p M) (hm:M.length=m*i2.size) (hlen:n+m≤4611686018427387904)
 (hroom:(2*(n+m)+1000)*i2.bytes≤2 ^ 48) :
 ∃ newCap,n+m≤newCap∧(Builtin.append_ #[t,xt] ty #[.slice a n cap,.slice p m cx]).run P w =
  .ok (.slice (some ⟨w.heap.size,0,none⟩) (n+m) newCap)
   { w with heap:=w.heap.push (.cells (L++M++(Builtin.zeroCells z.cells (newCap - (n+m))).toList).toArray e),drawn:=w.drawn+1 }:=
 gx ht hx he hz hfit hL hl hM hm hlen (by
  have:=Nat.mul_le_mul_right i2.bytes (nextslicecap_le (need:=n+m) (cap:=cap) (by omega))
  omega)
end
end Go.Sx
namespace Go.Sx
set_option linter.unusedVariables false
section
variable {P:Program} {aY:er} {w0:World} {R:Nat→Nat→Prop} {av:Nat→Prop} {bs:List (Nat×Nat)} {cs:List (List Value)}
theorem ax.perm {D:World→Prop} {rs rs':List (Nat×Row)} (h:rs.Perm rs'):ax ⟨D,rs⟩ ⟨D,rs'⟩:=by
 intro w0 R av w bs cs hst
 have hm : ∀ r,r∈rs'→r∈rs:=fun r hr=>h.mem_iff.2 hr
 refine⟨hst.keep,hst.box,?_,hst.own,hst.avlt,fun r hr=>hst.rows r (hm r hr),hst.data.less fun b hb=>?_⟩
 · exact(List.Perm.nodup_iff (List.Perm.append (List.Perm.refl _) (h.map _))).1 hst.nd
 · rcases hb with hb | hb | ⟨r,hr,rfl⟩
   · exact .inl hb
   · exact .inr (.inl hb)
   · exact .inr (.inr ⟨r,hm r hr,rfl⟩)
theorem St.drew {w:World} {F:Fx} (h:St w0 R av w bs cs F):St w0 R av { w with drawn:=w.drawn+1 } bs cs F:=
 h.ra ⟨rfl,rfl,rfl,Nat.le_refl _,fun b o ho=>⟨o,ho,.refl _ _⟩⟩
theorem St.putRow {w w':World} {D:World→Prop} {r1 r2:List (Nat×Row)} {b:Nat} {C C':Row} (h:St w0 R av w bs cs ⟨D,r1 ++ [(b,C)]++r2⟩) (h1:w'.os=w.os) (h2:w'.tape=w.tape)
 (h3:w'.output=w.output) (h4:w'.heap.size=w.heap.size) (h5 : ∀ k,k≠b→w'.heap[k]? = w.heap[k]?) (h6:fZ w' b C') (h7 : ∀ l,C=Row.c l→(∃ l',C'=Row.c l')∧∃ e a a',w.heap[b]? = some (.cells a e (0,0))∧w'.heap[b]? = some (.cells a' e (0,0))∧a'.size=a.size)
 (h8 : ∀ es k,C=Row.m es k→∃ es' k',C'=Row.m es' k':=by intro es k hh;first | (cases hh;done) | exact⟨_,_,rfl⟩):St w0 R av w' bs cs ⟨D,r1 ++ [(b,C')]++r2⟩:=by
 have hb0:=(h.rows (b,C) (by simp)).2
 have hnd:=h.nd
 simp only[List.map_append,List.map_cons,List.map_nil] at hnd
 have hnb : ∀ x∈bs,x.1≠b:=fun x hx he=>by
  rw[List.nodup_append] at hnd
  exact hnd.2.2 x.1 (List.mem_map.2 ⟨x,hx,rfl⟩) b (by simp) he
 have hnr : ∀ r,r∈r1∨r∈r2→r.1≠b:=fun r hr he=>by
  rw[List.nodup_append] at hnd
  have h8:=hnd.2.1
  rw[List.append_assoc,List.nodup_append] at h8
  rcases hr with hr | hr
  · exact h8.2.2 r.1 (List.mem_map.2 ⟨r,hr,rfl⟩) b (by simp) he
  · have:=h8.2.1
    simp only[List.singleton_append,List.nodup_cons] at this
    exact this.1 (List.mem_map.2 ⟨r,hr,he⟩)
 refine⟨⟨h1.trans h.keep.os,h2.trans h.keep.tape,h3.trans h.keep.output,by rw[h4];exact h.keep.size,fun k o ho=>?_⟩,h.box.of_same fun x hx=>h5 _ (hnb x hx),?_,h.own,h.avlt,fun r hr=>?_,?_⟩
 · obtain⟨o',ho',hs⟩:=h.keep.obj k o ho
   have hlt:=bG ho
   by_cases hkb:k=b
   · subst hkb
     rcases hb0 with hb0 | ⟨_,hR,⟨l,hC⟩ | ⟨es,kk,hC⟩⟩
     · simp at hb0
       omega
     · obtain⟨_,e,a,a',g1,g2,g3⟩:=h7 l hC
       rw[g1] at ho'
       cases ho'
       exact⟨_,g2,hs.trans (.inr (.inl ⟨a,a',e,_,rfl,rfl,g3,fun i hi=>absurd (hR i) hi⟩))⟩
     · have hC:C=Row.m es kk:=hC
       obtain⟨es',k',hC'⟩:=h8 es kk hC
       have g1:=(h.rows (k,C) (by simp)).1
       dsimp only at g1
       rw[hC] at g1
       rw[hC'] at h6
       have g1:w.heap[k]? = some (.map es kk):=g1
       have g2:w'.heap[k]? = some (.map es' k'):=h6
       rw[g1] at ho'
       cases ho'
       exact⟨_,g2,hs.trans (.inr (.inr ⟨hR,es,kk,es',k',rfl,rfl⟩))⟩
   · exact⟨o',by rw[h5 k hkb];exact ho',hs⟩
 · simpa only[List.map_append,List.map_cons,List.map_nil] using hnd
 · simp only[List.mem_append,List.mem_singleton] at hr
   rcases hr with(hr | rfl) | hr
   · have:=h.rows r (by simp[hr])
     exact⟨this.1.of_same (h5 _ (hnr r (.inl hr))),this.2⟩
   · refine⟨h6,hb0.imp id fun⟨q1,q2,q3⟩=>⟨q1,q2,q3.elim (fun⟨l,q3⟩=>.inl (h7 l q3).1) fun⟨es,k,q3⟩=>.inr (h8 es k q3)⟩⟩
   · have:=h.rows r (by simp[hr])
     exact⟨this.1.of_same (h5 _ (hnr r (.inr hr))),this.2⟩
 · refine h.data.move (by omega) (fun k hk hna=>h5 k fun he=>hna (.inr (.inr ⟨(b,C),by simp,he.symm⟩))) (fun k hk=>.inl ?_)
   rcases hk with hk | hk | ⟨r,hr,rfl⟩
   · exact .inl hk
   · exact .inr (.inl hk)
   · simp only[List.mem_append,List.mem_singleton] at hr
     rcases hr with(hr | rfl) | hr
     · exact .inr (.inr ⟨r,by simp[hr],rfl⟩)
     · exact .inr (.inr ⟨(b,C),by simp,rfl⟩)
     · exact .inr (.inr ⟨r,by simp[hr],rfl⟩)
theorem ar.xd (hT:bB P aY) {t xt ty:TypeId} {ti tx te:TI} {e xe:TypeId} (ht:look aY t=some ti) (hk:ti.k = .slice e) (hx:look aY xt=some tx) (hxk:tx.k = .slice xe) (he:look aY e=some te)
 (hzl:te.zero.length=te.size) {D:World→Prop} {r1 r2:List (Nat×Row)} {a p:Option Addr} {n cap m cx:Nat} {C L M:List Value} {K:KV} (own:cZ te.size n a cap C L)
 (hM:aK w0 R av bs cs ⟨D,r1++bo a C++r2⟩ p M) (hm:M.length=m*te.size) (hone : ∀ v∈M,a7 v=true) (hlen:n+m≤4611686018427387904) (hroom:cap<n+m→Builtin.nextslicecap (n+m) cap*te.bytes≤2 ^ 48)
 (h : ∀ a' cap' C',cZ te.size (n+m) a' cap' C' (L++M)→K (.slice a' (n+m) cap') bs cs ⟨D,r1++bo a' C'++r2⟩) :
 ar P w0 R av (Builtin.append_ #[t,xt] ty #[.slice a n cap,.slice p m cx]) bs cs ⟨D,r1++bo a C++r2⟩ K:=by
 refine cM.2 fun w hst=>?_
 obtain⟨i1,d1,z1,p1,p2,p3,p4,p5,p6,p7,p8⟩:=aN (hT _ _ ht)
 obtain⟨i3,d3,z3,o1,o2,o3,o4,o5,o6,o7,o8⟩:=aN (hT _ _ hx)
 obtain⟨i2,d2,z2,q1,q2,q3,q4,q5,q6,q7,q8⟩:=aN (hT _ _ he)
 rw[p4] at hk
 rw[o4] at hxk
 obtain rfl:=da hk
 obtain rfl:=da hxk
 have hMw:=hM w hst
 have hLw:=own.at hst
 by_cases hfit:n+m≤cap
 · rcases own.alt with⟨rfl,rfl,hc0⟩ | ⟨b,rfl,hCl,hCt⟩
   · have hn0:n=0:=by omega
     have hm0:m=0:=by omega
     subst hn0 hm0
     have hM0:M = []:=List.eq_nil_of_length_eq_zero (by simpa using hm)
     have hL0:L = []:=List.eq_nil_of_length_eq_zero (by simpa using own.len)
     subst hM0 hL0 hc0
     refine⟨_,w,[],cs,_,run_append_fits p2 o2 q1 (by omega) hMw (by simp) (w':=w) (fun ad h=>by cases h) (fun _=>rfl),by rw[List.append_nil];exact hst,by
      rw[List.append_nil];exact h none 0 [] (cZ.nil _)⟩
   · have hrow:=(hst.rows (b,C) (by simp[bo])).1
     obtain⟨et,hrow⟩:=hrow
     have hsz:0+n*te.size+0+M.length≤C.toArray.size:=by
      simp only[List.size_toArray]
      rw[hCl,hm,Nat.zero_add,Nat.add_zero,← Nat.add_mul]
      exact Nat.mul_le_mul_right _ hfit
     obtain⟨w',g1,g2,g3,g4,g5,g6,arr',g7,g8,g9⟩:=eI (P:=P) (b:=b) (o:=0+n*te.size) M 0 w C.toArray et hrow hone hsz
     have hO:cZ te.size (n+m) (some ⟨b,0,none⟩) cap (C.take (n*te.size)++M++C.drop ((n+m)*te.size)) (L++M):=by
      have hle:n*te.size+m*te.size≤C.length:=by rw[hCl,← Nat.add_mul];exact Nat.mul_le_mul_right _ hfit
      have hadd:(n+m)*te.size=n*te.size+m*te.size:=Nat.add_mul ..
      refine⟨by rw[List.length_append,own.len,hm,Nat.add_mul],hfit,.inr ⟨b,rfl,?_,?_⟩⟩
      · simp only[List.length_append,List.length_take,List.length_drop]
        omega
      · rw[hCt,hadd,List.take_append_of_le_length (by rw[List.length_append,own.len,hm];exact Nat.le_refl _)]
        rw[List.take_of_length_le (by rw[List.length_append,own.len,hm];exact Nat.le_refl _)]
     refine⟨_,w',[],cs,_,run_append_fits p2 o2 q1 hfit hMw (by rw[← q5];exact hm) (w':=w') (fun ad had=>?_) (fun h=>by cases h),?_,by
      rw[List.append_nil];exact h _ _ _ hO⟩
     · cases had
       rw[Addr.bE,← q5]
       exact g1
     · rw[List.append_nil]
       refine hst.putRow (C:=Row.c C) (C':=Row.c _) g2 g3 g4 g5 g6 ⟨et,?_⟩ fun l hl=>⟨⟨_,rfl⟩,et,_,_,hrow,g7,g8⟩
       rw[g7]
       congr 2
       apply Array.ext_getElem?
       intro j
       rw[g9 j]
       have hle:n*te.size+m*te.size≤C.length:=by rw[hCl,← Nat.add_mul];exact Nat.mul_le_mul_right _ hfit
       have hadd:(n+m)*te.size=n*te.size+m*te.size:=Nat.add_mul ..
       simp only[Nat.zero_add,Nat.add_zero,List.getElem?_toArray]
       by_cases hin:n*te.size≤j∧j<n*te.size+M.length
       · rw[if_pos hin,List.append_assoc,List.getElem?_append_right (by simp only[List.length_take];omega),List.getElem?_append_left (by simp only[List.length_take];omega)]
         congr 1
         simp only[List.length_take]
         omega
       · rw[if_neg hin]
         by_cases hlt:j<n*te.size
         · rw[List.append_assoc,List.getElem?_append_left (by simp only[List.length_take];omega),List.getElem?_take,if_pos hlt]
         · rw[List.getElem?_append_right (by simp only[List.length_take,List.length_append];omega),List.getElem?_drop]
           congr 1
           simp only[List.length_take,List.length_append]
           omega
 · obtain⟨newCap,hc,hrun⟩:=gx (w:=w) (ty:=ty) p2 o2 q1 q3 (cx:=cx) hfit hLw (by rw[← q5];exact own.len) hMw (by rw[← q5];exact hm) hlen (by rw[← q7];exact hroom (by omega))
   have hO:cZ te.size (n+m) (some ⟨w.heap.size,0,none⟩) newCap (L++M++(Builtin.zeroCells z2.cells (newCap - (n+m))).toList) (L++M):=by
    refine⟨by rw[List.length_append,own.len,hm,Nat.add_mul],hc,.inr ⟨_,rfl,?_,?_⟩⟩
    · have hzc:z2.cells=⟨te.zero⟩:=by rw[q6]
      rw[List.length_append,List.length_append,own.len,hm,hzc,j1,hzl,← Nat.add_mul,← Nat.add_mul]
      congr 1
      omega
    · rw[List.take_append_of_le_length (by rw[List.length_append,own.len,hm,Nat.add_mul];exact Nat.le_refl _)]
      rw[List.take_of_length_le (by rw[List.length_append,own.len,hm,Nat.add_mul];exact Nat.le_refl _)]
   refine⟨_,_,[],cs,_,hrun,?_,by rw[List.append_nil];exact h _ _ _ hO⟩
   · rw[List.append_nil]
     have hle:Fx.Le ⟨D,r1++bo a C++r2⟩ ⟨D,r1++r2⟩:=⟨List.Sublist.append (List.sublist_append_left _ _) (List.Sublist.refl _),fun _ h=>h⟩
     have h1:=((hst.imp hle).newRow (L++M++(Builtin.zeroCells z2.cells (newCap - (n+m))).toList) e).drew
     refine h1.bZ (ax.perm ?_)
     have hp : ∀ x:Nat×Row,(r1++r2 ++ [x]).Perm (r1 ++ [x]++r2):=fun x=>by
      rw[List.append_assoc,List.append_assoc]
      exact List.Perm.append (List.Perm.refl _) List.perm_append_comm
     exact hp _
theorem ar.append (hT:bB P aY) {t xt ty:TypeId} {ti tx te:TI} {e xe:TypeId} (ht:look aY t=some ti) (hk:ti.k = .slice e) (hx:look aY xt=some tx) (hxk:tx.k = .slice xe) (he:look aY e=some te)
 (hzl:te.zero.length=te.size) {D:World→Prop} {r1 r2:List (Nat×Row)} {a p:Option Addr} {n cap m cx:Nat} {C L M:List Value} {K:KV} (own:cZ te.size n a cap C L)
 (hM:aK w0 R av bs cs ⟨D,r1++bo a C++r2⟩ p M) (hm:M.length=m*te.size) (hone : ∀ v∈M,a7 v=true) (hlen:n+m≤4611686018427387904) (hroom:(2*(n+m)+1000)*te.bytes≤2 ^ 48)
 (h : ∀ a' cap' C',cZ te.size (n+m) a' cap' C' (L++M)→K (.slice a' (n+m) cap') bs cs ⟨D,r1++bo a' C'++r2⟩) :
 ar P w0 R av (Builtin.append_ #[t,xt] ty #[.slice a n cap,.slice p m cx]) bs cs ⟨D,r1++bo a C++r2⟩ K:=
 ar.xd hT ht hk hx hxk he hzl own hM hm hone hlen (fun hc=>by
  have:=Nat.mul_le_mul_right te.bytes (nextslicecap_le (need:=n+m) (cap:=cap) hc)
  omega) h
theorem ar.lG (hT:bB P aY) {t xt ty:TypeId} {ti tx te:TI} {e xe:TypeId} (ht:look aY t=some ti) (hk:ti.k = .slice e) (hx:look aY xt=some tx) (hxk:tx.k = .slice xe) (he:look aY e=some te)
 (hzl:te.zero.length=te.size) {F:Fx} {a p:Option Addr} {n cap m cx:Nat} {L M:List Value} {K:KV} (hL:aK w0 R av bs cs F a L) (hl:L.length=n*te.size)
 (hM:aK w0 R av bs cs F p M) (hm:M.length=m*te.size) (hc:cap<n+m) (hlen:n+m≤4611686018427387904) (hroom:(2*(n+m)+1000)*te.bytes≤2 ^ 48)
 (h : ∀ b cap' C',cZ te.size (n+m) (some ⟨b,0,none⟩) cap' C' (L++M)→K (.slice (some ⟨b,0,none⟩) (n+m) cap') bs cs ⟨F.D,F.rs ++ [(b,Row.c C')]⟩) :
 ar P w0 R av (Builtin.append_ #[t,xt] ty #[.slice a n cap,.slice p m cx]) bs cs F K:=by
 refine cM.2 fun w hst=>?_
 obtain⟨i1,d1,z1,p1,p2,p3,p4,p5,p6,p7,p8⟩:=aN (hT _ _ ht)
 obtain⟨i3,d3,z3,o1,o2,o3,o4,o5,o6,o7,o8⟩:=aN (hT _ _ hx)
 obtain⟨i2,d2,z2,q1,q2,q3,q4,q5,q6,q7,q8⟩:=aN (hT _ _ he)
 rw[p4] at hk
 rw[o4] at hxk
 obtain rfl:=da hk
 obtain rfl:=da hxk
 obtain⟨newCap,hc,hrun⟩:=lu (w:=w) (ty:=ty) p2 o2 q1 q3 (cx:=cx) (Nat.not_le.2 hc) (hL w hst) (by rw[← q5];exact hl) (hM w hst) (by rw[← q5];exact hm) hlen (by rw[← q7];exact hroom)
 have hO:cZ te.size (n+m) (some ⟨w.heap.size,0,none⟩) newCap (L++M++(Builtin.zeroCells z2.cells (newCap - (n+m))).toList) (L++M):=by
  refine⟨by rw[List.length_append,hl,hm,Nat.add_mul],hc,.inr ⟨_,rfl,?_,?_⟩⟩
  · have hzc:z2.cells=⟨te.zero⟩:=by rw[q6]
    rw[List.length_append,List.length_append,hl,hm,hzc,j1,hzl,← Nat.add_mul,← Nat.add_mul]
    congr 1
    omega
  · rw[List.take_append_of_le_length (by rw[List.length_append,hl,hm,Nat.add_mul];exact Nat.le_refl _)]
    rw[List.take_of_length_le (by rw[List.length_append,hl,hm,Nat.add_mul];exact Nat.le_refl _)]
 refine⟨_,_,[],cs,_,hrun,?_,by rw[List.append_nil];exact h _ _ _ hO⟩
 rw[List.append_nil]
 exact(hst.newRow _ e).drew
end
end Go.Sx
namespace Go.Sx
set_option linter.unusedVariables false
section
variable {P:Program} {aY:er} {w0:World} {R:Nat→Nat→Prop} {av:Nat→Prop} {bs:List (Nat×Nat)} {cs:List (List Value)} {F:Fx}
theorem qQ (op:BinOp) (t:TypeId) (x y:Operand) (a b:Option Addr) (n m c d:Nat) (w:World):(eqGuard op t x y (.slice a n c) (.slice b m d)).run P w = .ok () w:=by
 cases op<;>rfl
theorem mS {t e:TypeId} (h:P.underlying t=some (.slice e)) (d:Nat) (a:Option Addr) (n c:Nat) (w:World):(Op.equalIn (d+1) t (.slice a n c) (.slice none 0 0)).run P w = .ok a.isNone w:=by
 unfold Op.equalIn
 rw[an (aM h w)]
 cases a<;>rfl
theorem pZ {t e:TypeId} (h:P.underlying t=some (.slice e)) (a:Option Addr) (n c:Nat) (w:World):(Op.equal t (.slice a n c) (.slice none 0 0)).run P w = .ok a.isNone w:=
 mS h 9999 a n c w
theorem ak.eP (hT:bB P aY) {t e:TypeId} {ti:TI} (ht:look aY t=some ti) (hk:ti.k = .slice e) {x y:Operand} {a:Option Addr} {n c:Nat} {K:Value→Prop} (h:K (.bool a.isNone)) :
 ak P w0 R av (do eqGuard .eql t x y (.slice a n c) (.slice none 0 0);binOp .eql t (.slice a n c) (.slice none 0 0)) bs cs F K:=by
 refine(bc _ _ _ _).2 ⟨_,fun w _=>?_,h⟩
 obtain⟨i1,d1,z1,p1,p2,p3,p4,p5,p6,p7,p8⟩:=aN (hT _ _ ht)
 rw[p4] at hk
 obtain rfl:=da hk
 rw[an (qQ _ _ _ _ _ _ _ _ _ _ w)]
 show(do pure (Value.bool (← Op.equal t (.slice a n c) (.slice none 0 0))):Sem Value).run P w=_
 rw[an (pZ p2 a n c w)]
 rfl
def eJ (l:List UInt8):Value:=.string ⟨⟨l⟩⟩
def wW (c:Value) (s:ByteArray):Sem (ForInStep ByteArray):=match c with
 | .int .u8 n=>pure (ForInStep.yield (s.push (UInt8.ofNat n.toNat)))
 | _=>do
  stuck "bytesToString: byte expected"
  pure (ForInStep.yield s)
theorem vL (x:UInt8) (acc:List UInt8):wW (ea x) ⟨⟨acc⟩⟩=pure (ForInStep.yield ⟨⟨acc ++ [x]⟩⟩):=by
 unfold wW ea
 simp only
 congr 2
 have:UInt8.ofNat (x.toNat:Int).toNat=x:=by simp
 rw[this]
 show ByteArray.mk (Array.push ⟨acc⟩ x)=_
 congr 1
 apply Array.toList_inj.1
 simp
theorem jw (w:World) : ∀ (l acc:List UInt8),(forIn (l.map ea) (⟨⟨acc⟩⟩:ByteArray) wW:Sem ByteArray).run P w = .ok ⟨⟨acc++l⟩⟩ w
 | [],acc=>by simp
 | x::l,acc=>by
  simp only[List.map_cons,List.forIn_cons,vL]
  rw[an (run_pure P _ w)]
  simp only
  rw[jw w l (acc ++ [x])]
  simp
theorem run_bytesToString {w:World} {a:Option Addr} {n c:Nat} {l:List UInt8} (h:ai w a (l.map ea)) (hn:n=l.length):(Conv.bytesToString (.slice a n c)).run P w = .ok (eJ l) w:=by
 cases a with
 | none=>
  have:l = []:=by simpa using ai.r9 h
  subst this
  rfl
 | some ad=>
  have e:Conv.bytesToString (.slice (some ad) n c)=(do let cells ← loadCells ad n;let s ← forIn cells ByteArray.empty wW;pure (.string s)):=rfl
  have hl:(loadCells ad n).run P w = .ok ⟨l.map ea⟩ w:=by
   have:=dU (P:=P) (n:=n) (c:=c) (m:=n) (sz:=1) h (by simp[hn])
   simpa [Builtin.firstCells] using this
  rw[e,an hl,← Array.forIn_toList]
  have hz:=jw (P:=P) w l []
  have he:(ByteArray.mk ⟨[]⟩)=ByteArray.empty:=rfl
  rw[he] at hz
  rw[an hz]
  rfl
theorem qY {d:TypeDesc} (h:dK d = .str):d = .string:=by
 cases d<;>simp[dK] at h
 rfl
theorem ak.bytes (hT:bB P aY) {t u e:TypeId} {ti tu te:TI} (ht:look aY t=some ti) (hk:ti.k = .slice e) (hu:look aY u=some tu) (hs:tu.k = .str) (he:look aY e=some te) (hb:te.k = .int .u8)
 {a:Option Addr} {n c:Nat} {l:List UInt8} {K:Value→Prop} (hr:aK w0 R av bs cs F a (l.map ea)) (hn:n=l.length) (h:K (eJ l)):ak P w0 R av (convert t u (.slice a n c)) bs cs F K:=by
 refine(bc _ _ _ _).2 ⟨_,fun w hst=>?_,h⟩
 obtain⟨i1,d1,z1,p1,p2,p3,p4,p5,p6,p7,p8⟩:=aN (hT _ _ ht)
 obtain⟨i3,d3,z3,o1,o2,o3,o4,o5,o6,o7,o8⟩:=aN (hT _ _ hu)
 obtain⟨i2,d2,z2,q1,q2,q3,q4,q5,q6,q7,q8⟩:=aN (hT _ _ he)
 rw[p4] at hk
 rw[o4] at hs
 rw[q4] at hb
 obtain rfl:=da hk
 obtain rfl:=qY hs
 have hb':d2 = .int .u8:=by cases d2<;>simp[dK] at hb;rw[hb]
 subst hb'
 unfold convert
 rw[an (aM p2 w),an (aM o2 w)]
 simp only
 rw[an (aM q2 w)]
 exact run_bytesToString (hr w hst) hn
theorem uZ (op:BinOp) (t:TypeId) (x y:Operand) (a b:ByteArray) (w:World):(eqGuard op t x y (.string a) (.string b)).run P w = .ok () w:=by
 cases op<;>rfl
theorem toList_mk (l:List UInt8):(ByteArray.mk ⟨l⟩).toList=l:=by
 rw[ByteArray.toList_eq]
theorem ak.DJ {t:TypeId} {x y:Operand} {l m:List UInt8} {K:Value→Prop} (h:K (.bool (l == m))) :
 ak P w0 R av (do eqGuard .eql t x y (eJ l) (eJ m);binOp .eql t (eJ l) (eJ m)) bs cs F K:=by
 refine(bc _ _ _ _).2 ⟨_,fun w _=>?_,h⟩
 unfold eJ
 rw[an (uZ _ _ _ _ _ _ w)]
 simp only[binOp,Op.stringOp,toList_mk]
 rfl
theorem ak.min {ts:Array TypeId} {ty:TypeId} {k:IntKind} {a b:Int} {K:Value→Prop} (h:K (.int k (if b<a then b else a))) :
 ak P w0 R av (Builtin.min_ ts ty #[.int k a,.int k b]) bs cs F K:=(bc _ _ _ _).2 ⟨_,fun w _=>rfl,h⟩
theorem CB {d:TypeDesc} {k:IntKind} (h:dK d = .int k):d = .int k:=by
 cases d<;>simp[dK] at h
 rw[h]
end
end Go.Sx
namespace Go.Sx
set_option linter.unusedVariables false
structure Hd where
 a:Option Addr
 c:Nat
def Hd.nil:Hd:=⟨none,0⟩
abbrev Hd.v (h:Hd) (n:Nat):Value:=.slice h.a n h.c
structure Hd.Ok (h:Hd) (n:Nat):Prop where
 nil:h.a=none→n=0
 cap:n≤h.c
theorem Hd.ox:Hd.nil.Ok 0:=⟨fun _=>rfl,Nat.le_refl _⟩
abbrev By (w:World) (h:Hd) (l:List UInt8):Prop:=ai w h.a (l.map ea)
theorem By.nil (w:World):By w Hd.nil []:=rfl
theorem cZ.hd {n:Nat} {a:Option Addr} {cap:Nat} {C L:List Value} (h:cZ 1 n a cap C L):(⟨a,cap⟩:Hd).Ok n:=⟨h.cJ,h.fit⟩
theorem wrap_i64 {n:Int} (h : -9223372036854775808≤n∧n≤9223372036854775807):IntKind.i64.wrap n=n:=by
 simp only[IntKind.wrap,IntKind.bits,IntKind.signed]
 have:(2:Int) ^ 64=18446744073709551616:=by decide
 have:(2:Int) ^ (64 - 1)=9223372036854775808:=by decide
 simp only[*,Bool.true_and,decide_eq_true_eq]
 split<;>omega
section
variable {P:Program} {aY:er} {w0:World} {R:Nat→Nat→Prop} {av:Nat→Prop} {bs:List (Nat×Nat)} {cs:List (List Value)} {F:Fx}
end
theorem yc (a:Option Addr) (m sz:Nat):jM a 0 m sz=a:=by
 unfold jM
 split
 · rfl
 · cases a with
   | none=>rfl
   | some ad=>simp[Addr.add]
end Go.Sx
namespace Go.Sx
set_option linter.unusedVariables false
theorem ax.share1 {D:World→Prop} {b:Nat} {C:List Value} {rs:List (Nat×Row)}:ax ⟨D,(b,C)::rs⟩ ⟨fun w=>D w∧ai w (some ⟨b,0,none⟩) C,rs⟩:=
 cZ.share (sz:=1) (n:=C.length) (cap:=C.length) (a:=some ⟨b,0,none⟩) (r1:=[]) (r2:=rs) (cZ.full (by simp))
def sD (w:World):List (Nat×Row)→Prop
 | []=>True
 | (b,.c l)::rs=>ai w (some ⟨b,0,none⟩) l∧sD w rs
 | (_,.m _ _)::rs=>True∧sD w rs
 | (_,.o _)::rs=>True∧sD w rs
theorem ax.jc : ∀ {rs:List (Nat×Row)} {D:World→Prop},ax ⟨D,rs⟩ ⟨fun w=>D w∧sD w rs,[]⟩
 | [],D=>ax.imp fun w h=>⟨h,trivial⟩
 | (b,.m es k)::rs,D=>((show ax ⟨D,(b,.m es k)::rs⟩ ⟨D,rs⟩ from ax.of_le ⟨List.sublist_cons_self _ _,fun _ h=>h⟩).trans ax.jc).trans (ax.imp fun w h=>⟨h.1,trivial,h.2⟩)
 | (b,.o x)::rs,D=>((show ax ⟨D,(b,.o x)::rs⟩ ⟨D,rs⟩ from ax.of_le ⟨List.sublist_cons_self _ _,fun _ h=>h⟩).trans ax.jc).trans (ax.imp fun w h=>⟨h.1,trivial,h.2⟩)
 | (b,.c C)::rs,D=>(ax.share1.trans ax.jc).trans (ax.imp fun w h=>⟨h.1.1,h.1.2,h.2⟩)
theorem cZ.row {w:World} {sz n b cap:Nat} {C L:List Value} (h:cZ sz n (some ⟨b,0,none⟩) cap C L) (hr:ai w (some ⟨b,0,none⟩) C):ai w (some ⟨b,0,none⟩) L:=by
 rcases h.alt with⟨h1,_⟩ | ⟨b',h1,_,h3⟩
 · cases h1
 · rw[← h3];exact hr.take _
open Go
variable {P:Program} {aY:er} {w0:World} {R:Nat→Nat→Prop} {av:Nat→Prop} {bs:List (Nat×Nat)} {cs:List (List Value)} {F:Fx}
theorem ar.Bg (hT:bB P aY) {t xt ty:TypeId} {ti tx te:TI} {e xe:TypeId} (ht:look aY t=some ti) (hk:ti.k = .slice e) (hx:look aY xt=some tx) (hxk:tx.k = .slice xe) (he:look aY e=some te)
 {a p:Option Addr} {n cap m cx:Nat} {K:KV} (hfit:n≤cap) (hm:m=0) (hM:aK w0 R av bs cs F p [])
 (h:K (.slice a n cap) bs cs F):ar P w0 R av (Builtin.append_ #[t,xt] ty #[.slice a n cap,.slice p m cx]) bs cs F K:=by
 subst hm
 refine cM.2 fun w hst=>?_
 obtain⟨i1,d1,z1,p1,p2,p3,p4,p5,p6,p7,p8⟩:=aN (hT _ _ ht)
 obtain⟨i3,d3,z3,o1,o2,o3,o4,o5,o6,o7,o8⟩:=aN (hT _ _ hx)
 obtain⟨i2,d2,z2,q1,q2,q3,q4,q5,q6,q7,q8⟩:=aN (hT _ _ he)
 rw[p4] at hk
 rw[o4] at hxk
 obtain rfl:=da hk
 obtain rfl:=da hxk
 exact⟨_,w,[],cs,_,run_append_fits p2 o2 q1 (m:=0) (M:=[]) hfit (hM w hst) (by simp) (w':=w) (fun ad _=>rfl) (fun _=>rfl),by rw[List.append_nil];exact hst,by rw[List.append_nil];exact h⟩
end Go.Sx
namespace Go.Sx
open Go
variable {P:Program} {aY:er} {w0:World} {R:Nat→Nat→Prop} {av:Nat→Prop} {bs:List (Nat×Nat)} {cs:List (List Value)} {F F':Fx}
theorem aw.bZ {f:FuncId} {vs:List Value} {K:KV} (h:ax F F') (k:aw P w0 R av f vs bs cs F' K):aw P w0 R av f vs bs cs F K:=
 cQ.2 ⟨(cQ.1 k).1,fun w hst=>(cQ.1 k).2 w (h _ _ _ _ _ _ hst)⟩
theorem ar.bZ {m:Sem Value} {K:KV} (h:ax F F') (k:ar P w0 R av m bs cs F' K):ar P w0 R av m bs cs F K:=
 cM.2 fun w hst=>cM.1 k w (h _ _ _ _ _ _ hst)
theorem az.bZ {c:Code} {tm:List SV} {K:Exit→KT} (h:ax F F') (k:az P w0 R av c tm bs cs F' K):az P w0 R av c tm bs cs F K:=
 bU.2 fun a w hf hst=>bU.1 k a w hf (h _ _ _ _ _ _ hst)
end Go.Sx
