/- Parts of the proof: SyU. -/
import Derived.Test.YtlnhdpjnlffaoaaGreatDoorQM
namespace Go.Sx
open Go
set_option linter.unusedVariables false
section
variable {P:Program} {aY:er} {w0:World} {R:Nat→Nat→Prop} {av:Nat→Prop}
def xI:List Nat→Nat→Nat→Nat→SV
 | [],_,_,_=>.any
 | x::xs,i,k,o=>match Nat.beq x i with
  | true=>.p k o
  | false=>xI xs i (k+1) o
def uH (picks:List Nat):SV→SV
 | .p i o=>xI picks i 0 o
 | .v x=>.v x
 | _=>.any
theorem uQ {picks:List Nat} : ∀ (l:List SV) (t:Nat),nth .any (l.map (uH picks)) t=uH picks (nth .any l t)
 | [],_=>rfl
 | _::_,0=>rfl
 | _::xs,t+1=>uQ xs t
theorem iE {α β:Type} (d:α) (d':β) (f:β→α) : ∀ (l:List β) (k:Nat),k<l.length→nth d (l.map f) k=f (nth d' l k)
 | _::_,0,_=>rfl
 | _::xs,k+1,h=>iE d d' f xs k (by simpa using h)
theorem wZ {i o:Nat} : ∀ (picks:List Nat) (k:Nat),xI picks i k o = .any∨∃ j,j<picks.length∧nth 0 picks j=i∧xI picks i k o = .p (k+j) o
 | [],_=>.inl rfl
 | x::xs,k=>by
  unfold xI
  cases hb:Nat.beq x i with
  | true=>exact .inr ⟨0,by simp,Nat.eq_of_beq_eq_true hb,rfl⟩
  | false=>
   rcases wZ (i:=i) (o:=o) xs (k+1) with h | ⟨j,h1,h2,h3⟩
   · exact .inl h
   · exact .inr ⟨j+1,by simpa using h1,h2,by dsimp only;rw[h3];congr 1;omega⟩
theorem a_.uH {bs:List (Nat×Nat)} {tm:List SV} {a:Array Value} {picks:List Nat} (h:a_ bs tm a):a_ (picks.map (nth (0,0) bs)) (tm.map (uH picks)) a:=by
 refine⟨by rw[List.length_map];exact h.len,fun t=>?_⟩
 rw[uQ]
 have ho:=h.ok t
 cases hs:nth SV.any tm t with
 | v x=>rw[hs] at ho;exact ho
 | any=>exact trivial
 | g c p x=>exact trivial
 | p i o=>
  rw[hs] at ho
  obtain⟨h1,h2⟩:=ho
  show dt _ (xI picks i 0 o) _
  rcases wZ (i:=i) (o:=o) picks 0 with h3 | ⟨j,h3,h4,h5⟩
  · rw[h3]
    exact trivial
  · rw[h5,Nat.zero_add]
    refine⟨?_,by simpa using h3⟩
    rw[h1]
    unfold ptr
    rw[iE (0,0) 0 (nth (0,0) bs) picks j h3,h4]
theorem cB.picks {w:World} {bs:List (Nat×Nat)} {cs:List (List Value)} (h:cB w bs cs) : ∀ picks:List Nat,(∀ k∈picks,k<cs.length)→cB w (picks.map (nth (0,0) bs)) (picks.map (nth [] cs))
 | [],_=>trivial
 | k::ks,hk=>⟨(cB.get h k (hk k (by simp))).1,cB.picks h ks fun j hj=>hk j (by simp[hj])⟩
theorem xB {bs:List (Nat×Nat)} (h:(bs.map (·.1)).Nodup) {i j:Nat} (hi:i<bs.length) (hj:j<bs.length) (he:(nth (0,0) bs i).1=(nth (0,0) bs j).1):i=j:=by
 have:=(List.getElem?_inj (l:=bs.map (·.1)) (i:=i) (j:=j) (by simpa using hi) h).1
 apply this
 rw[List.getElem?_map,List.getElem?_map,List.getElem?_eq_getElem hi,List.getElem?_eq_getElem hj]
 rw[bw,bw,List.getElem?_eq_getElem hi,List.getElem?_eq_getElem hj] at he
 simpa using he
theorem mn {bs:List (Nat×Nat)} (h:(bs.map (·.1)).Nodup) : ∀ picks:List Nat,picks.Nodup→(∀ k∈picks,k<bs.length)→((picks.map (nth (0,0) bs)).map (·.1)).Nodup
 | [],_,_=>by simp
 | k::ks,hn,hk=>by
  rw[List.nodup_cons] at hn
  simp only[List.map_cons,List.nodup_cons]
  refine⟨fun hm=>?_,mn h ks hn.2 fun j hj=>hk j (by simp[hj])⟩
  rw[List.map_map,List.mem_map] at hm
  obtain⟨j,hj,he⟩:=hm
  have:=xB h (hk j (by simp[hj])) (hk k (by simp)) he
  subst this
  exact hn.1 hj
theorem St.picks {w:World} {bs:List (Nat×Nat)} {cs:List (List Value)} {D:Fx} (h:St w0 R av w bs cs D) (picks:List Nat) (hn:picks.Nodup) (hk : ∀ k∈picks,k<bs.length) :
 St w0 R av w (picks.map (nth (0,0) bs)) (picks.map (nth [] cs)) D:=by
 have hlen:=h.box.len
 refine⟨h.keep,cB.picks h.box picks (by rw[hlen];exact hk),?_,fun i hi=>?_,h.avlt,h.rows,h.data.less fun b hb=>?_⟩
 · have hnd:=h.nd
   rw[List.nodup_append] at hnd ⊢
   refine⟨mn hnd.1 picks hn hk,hnd.2.1,fun x hx y hy=>?_⟩
   refine hnd.2.2 x ?_ y hy
   rw[List.map_map,List.mem_map] at hx
   obtain⟨k,hk',rfl⟩:=hx
   exact List.mem_map.2 ⟨_,jI (hk k hk'),rfl⟩
 · rw[List.length_map] at hi
   rw[iE (0,0) 0 _ _ _ hi,iE [] 0 _ _ _ hi]
   refine h.own _ (hk _ ?_)
   rw[bw,List.getElem?_eq_getElem hi]
   exact List.getElem_mem hi
 · rcases hb with hb | ⟨x,hx,rfl⟩ | hb
   · exact .inl hb
   · obtain⟨k,hk',rfl⟩:=List.mem_map.1 hx
     exact .inr (.inl ⟨_,jI (hk k hk'),rfl⟩)
   · exact .inr (.inr hb)
def El {ι:Type} (I:ι→Prop) (tmI:ι→List SV) (csI:ι→List (List Value)) (DI:ι→Fx) (K:Exit→KT):Exit→KT:=
 fun e tm' bs' cs' D'=>match e with
  | .normal=>∃ i,I i∧∃ picks:List Nat,(picks.Nodup∧(∀ k∈picks,k<bs'.length)∧picks.map (nth [] cs')=csI i)∧au (tm'.map (uH picks)) (tmI i)∧ax D' (DI i)
  | e=>K e tm' bs' cs' D'
theorem az.cut (hT:bB P aY) {ι:Type} {a b:Code} {tm:List SV} {bs:List (Nat×Nat)} {cs:List (List Value)} {D:Fx} {K:Exit→KT} (I:ι→Prop) (tmI:ι→List SV) (csI:ι→List (List Value)) (DI:ι→Fx)
 (h1:xc P aY w0 R av a tm bs cs D (El I tmI csI DI K)) (h2 : ∀ i,I i→∀ bs',bs'.length=(csI i).length→az P w0 R av b (tmI i) bs' (csI i) (DI i) K):az P w0 R av (.seq a b) tm bs cs D K:=by
 refine bU.2 fun x w hf hst=>?_
 refine wp_seq (wp_mono (ga hT a _ _ _ _ _ _ _ h1 hf hst) ?_)
 rintro e act w' ⟨hd,tm',bs',cs',D',g1,g2,g3⟩
 rw[gE hd]
 cases e with
 | normal=>
  obtain⟨i,hI,picks,⟨p1,p2,p3⟩,hfl,hE⟩:=g3
  have hfr:=hfl.ok (g1.uH (picks:=picks))
  have hst':=(g2.picks picks p1 p2).bZ hE
  rw[p3] at hst'
  have:=h2 i hI (picks.map (nth (0,0) bs')) (by rw[← p3];simp)
  exact bU.1 this _ _ hfr hst'
 | _=>exact⟨rfl,tm',bs',cs',D',g1,g2,g3⟩
theorem az.aG (hT:bB P aY) {c:Code} {tm:List SV} {bs:List (Nat×Nat)} {cs:List (List Value)} {D:Fx} {K:Exit→KT} (h:xc P aY w0 R av c tm bs cs D K):az P w0 R av c tm bs cs D K:=
 bU.2 fun a w hf hst=>ga hT c _ _ _ _ _ _ _ h hf hst
theorem af.iL (hT:bB P aY) {f:FuncId} {fn:Func} (hfn:P.funcs[f]? = some fn) {c:Code} (hb:fn.body=some c) (hnm:(fn.name == "runtime.NumGoroutine")=false) {vs:List Value}
 {n:Nat} (hn:fn.ntmps=vs.length+n) {Pre:World→Prop} {Rel:Value→Fx→Prop}
 (h : ∀ w0 av,az P w0 (fun _ _=>False) av c (vs.map SV.v++List.replicate n .any) [] [] ⟨Pre,[]⟩ (lz aY fn.results.toList (eg Rel))):af P f vs Pre Rel:=by
 unfold af
 refine⟨⟨fn,hfn,by rw[hb];rfl,hnm⟩,fun av w hav hpre=>?_⟩
 have hst:St w (fun _ _=>False) av w [] [] ⟨Pre,[]⟩:=
  ⟨dD.refl _ _,trivial,by simp,fun i hi=>by simp at hi,hav,fun r hr=>by simp at hr,hpre.less fun b hb=>hb.elim id (fun h=>h.elim (fun⟨x,hx,_⟩=>by simp at hx) (fun⟨x,hx,_⟩=>by simp at hx))⟩
 refine calls_of_wp hfn hb ?_
 have hfr:a_ [] (vs.map SV.v++List.replicate n .any) (vs.toArray++Array.replicate (fn.ntmps - vs.toArray.size) undef):=by
  refine⟨by simp;omega,fun t=>?_⟩
  rw[bw]
  by_cases ht:t<vs.length
  · rw[List.getElem?_append_left (by simpa using ht),List.getElem?_map,List.getElem?_eq_getElem ht]
    have e:(vs.toArray++Array.replicate (fn.ntmps - vs.toArray.size) undef).getD t undef=vs[t]:=by
     rw[Array.getD_eq_getD_getElem?,Array.getElem?_append_left (by simpa using ht)]
     simp[ht]
    rw[e]
    exact rfl
  · have:(vs.map SV.v++List.replicate n SV.any)[t]?.getD .any = .any:=by
     rw[List.getElem?_append_right (by simp;omega),List.getElem?_replicate]
     split<;>rfl
    rw[this]
    exact trivial
 refine wp_mono (bU.1 (h w av) _ _ hfr hst) ?_
 rintro e act w' ⟨hd,tm',bs',cs',D',h1,h2,h3⟩
 have fin:eg Rel=eg Rel:=rfl
 cases e with
 | normal=>
  obtain⟨v,g1,F2,g2,g3⟩:=ez hT h1 h2.box (fun r hr=>(h2.rows r hr).1) h3
  exact⟨hd,v,g1,v,F2,rfl,h2.keep,(h2.bZ g2).fx fun _=>⟨0,id⟩,g3⟩
 | ret=>
  obtain⟨v,g1,F2,g2,g3⟩:=ez hT h1 h2.box (fun r hr=>(h2.rows r hr).1) h3
  exact⟨hd,v,g1,v,F2,rfl,h2.keep,(h2.bZ g2).fx fun _=>⟨0,id⟩,g3⟩
 | _=>exact h3.elim
def EK:Code→Code
 | .seq a _=>a
 | c=>c
def DB:Code→Code
 | .seq _ b=>b
 | c=>c
def cY:Nat→Code→Code
 | 0,c=>c
 | n+1,c=>cY n (DB c)
def D4 (P:Program) (aY:er) (w0:World) (R:Nat→Nat→Prop) (av:Nat→Prop):Nat→Code→List SV→List (Nat×Nat)→List (List Value)→Fx→(Exit→KT)→KT→Prop
 | 0,_,tm,bs,cs,D,_,M=>M tm bs cs D
 | n+1,.seq a b,tm,bs,cs,D,K,M=>xc P aY w0 R av a tm bs cs D fun e tm bs cs D=>match e with
  | .normal=>D4 P aY w0 R av n b tm bs cs D K M
  | e=>K e tm bs cs D
 | _+1,_,_,_,_,_,_,_=>False
def Et {ι:Type} (I:ι→Prop) (tmI:ι→List SV) (csI:ι→List (List Value)) (DI:ι→Fx):KT:=fun tm' bs' cs' D'=>
 ∃ i,I i∧∃ picks:List Nat,(picks.Nodup∧(∀ k∈picks,k<bs'.length)∧picks.map (nth [] cs')=csI i)∧au (tm'.map (uH picks)) (tmI i)∧ax D' (DI i)
theorem az.EC (hT:bB P aY) {K:Exit→KT} {M:KT} : ∀ (n:Nat) (c:Code) (tm:List SV) (bs:List (Nat×Nat)) (cs:List (List Value)) (D:Fx),D4 P aY w0 R av n c tm bs cs D K M→
 (∀ tm' bs' cs' D',M tm' bs' cs' D'→az P w0 R av (cY n c) tm' bs' cs' D' K)→az P w0 R av c tm bs cs D K
 | 0,c,tm,bs,cs,D,h,hM=>hM _ _ _ _ h
 | n+1,c,tm,bs,cs,D,h,hM=>by
  cases c with
  | seq a b=>
   refine bU.2 fun x w hf hst=>?_
   refine wp_seq (wp_mono (ga hT a _ _ _ _ _ _ _ h hf hst) ?_)
   rintro e act w' ⟨hd,tm',bs',cs',D',g1,g2,g3⟩
   rw[gE hd]
   cases e with
   | normal=>exact bU.1 (az.EC hT n b tm' bs' cs' D' g3 hM) _ _ g1 g2
   | _=>exact⟨rfl,tm',bs',cs',D',g1,g2,g3⟩
  | _=>exact h.elim
theorem az.cr (hT:bB P aY) (n:Nat) {ι:Type} {c:Code} {tm:List SV} {bs:List (Nat×Nat)} {cs:List (List Value)} {D:Fx} {K:Exit→KT} (I:ι→Prop) (tmI:ι→List SV) (csI:ι→List (List Value)) (DI:ι→Fx)
 (h1:D4 P aY w0 R av n c tm bs cs D K (Et I tmI csI DI)) (h2 : ∀ i,I i→∀ bs',bs'.length=(csI i).length→az P w0 R av (cY n c) (tmI i) bs' (csI i) (DI i) K):az P w0 R av c tm bs cs D K:=by
 refine az.EC hT n c tm bs cs D h1 fun tm' bs' cs' D' hM=>?_
 obtain⟨i,hI,picks,⟨p1,p2,p3⟩,hfl,hE⟩:=hM
 refine bU.2 fun x w hf hst=>?_
 have hfr:=hfl.ok (hf.uH (picks:=picks))
 have hst':=(hst.picks picks p1 p2).bZ hE
 rw[p3] at hst'
 exact bU.1 (h2 i hI (picks.map (nth (0,0) bs')) (by rw[← p3];simp)) _ _ hfr hst'
theorem az.sw {c:Code} {tm:List SV} {bs:List (Nat×Nat)} {cs:List (List Value)} {D:World→Prop} {r1 r2:List (Nat×Row)} {b:Nat} {C:List Value} {K:Exit→KT} {j:Nat} (hj:nth .any tm j = .v (.pointer (some ⟨b,0,none⟩)))
 (h:az P w0 R av c (tm.set j (.p bs.length 0)) (bs ++ [(b,0)]) (cs ++ [C]) ⟨D,r1++r2⟩ K):az P w0 R av c tm bs cs ⟨D,r1 ++ [(b,Row.c C)]++r2⟩ K:=by
 refine bU.2 fun a w hf hst=>?_
 have hrow:=hst.rows (b,Row.c C) (by simp)
 obtain⟨⟨e,hb⟩,hown⟩:=hrow
 dsimp only at hb hown
 have hlen:=hst.box.len
 have hst':St w0 R av w (bs ++ [(b,0)]) (cs ++ [C]) ⟨D,r1++r2⟩:=by
  refine⟨hst.keep,cB.snoc ⟨C.toArray,e,hb,fun j hj=>by simp⟩ hst.box,?_,fun i hi=>?_,hst.avlt,fun r hr=>hst.rows r ?_,hst.data.less fun k hk=>?_⟩
  · have hnd:=hst.nd
    have hp:(bs.map Prod.fst++(r1 ++ [(b,Row.c C)]++r2).map Prod.fst).Perm ((bs ++ [(b,0)]).map Prod.fst++(r1++r2).map Prod.fst):=by
     simp only[List.map_append,List.map_cons,List.map_nil,List.append_assoc]
     refine List.Perm.append_left _ ?_
     have h1:=List.perm_append_comm (l₁:=r1.map Prod.fst) (l₂:=[b])
     have h2:=h1.append_right (r2.map Prod.fst)
     simp
    exact hp.nodup_iff.1 hnd
  · by_cases hb':i<bs.length
    · have:=hst.own i hb'
      rw[bV _ _ _ _ hb',bV _ _ _ _ (by omega)]
      exact this
    · have hie:i=bs.length:=by simp at hi;omega
      have e1:nth (0,0) (bs ++ [(b,0)]) i=(b,0):=by rw[hie,bw];simp
      rw[e1]
      rcases hown with ho | ⟨_,ho,_⟩
      · exact .inl ho
      · exact .inr fun j _=>ho _
  · simp only[List.mem_append,List.mem_singleton] at hr ⊢
    rcases hr with hr | hr
    · exact .inl (.inl hr)
    · exact .inr hr
  · rcases hk with hk | ⟨x,hx,rfl⟩ | ⟨r,hr,rfl⟩
    · exact .inl hk
    · rcases List.mem_append.1 hx with hx | hx
      · exact .inr (.inl ⟨x,hx,rfl⟩)
      · obtain rfl:=List.mem_singleton.1 hx
        exact .inr (.inr ⟨(b,Row.c C),by simp,rfl⟩)
    · refine .inr (.inr ⟨r,?_,rfl⟩)
      simp only[List.mem_append] at hr ⊢
      rcases hr with hr | hr
      · exact .inl (.inl hr)
      · exact .inr hr
 refine bU.1 h a w ⟨by rw[List.length_set];exact hf.len,fun t=>?_⟩ hst'
 have ho:=hf.ok t
 by_cases ht:t=j
 · subst ht
   rw[hj] at ho
   by_cases hl:t<tm.length
   · have e1:nth SV.any (tm.set t (.p bs.length 0)) t = .p bs.length 0:=by rw[bw];simp[hl]
     rw[e1]
     refine⟨?_,by simp⟩
     have ho:a.getD t undef = .pointer (some ⟨b,0,none⟩):=ho
     rw[ho]
     unfold ptr
     have:nth (0,0) (bs ++ [(b,0)]) bs.length=(b,0):=by rw[bw];simp
     rw[this]
   · rw[bw] at hj
     rw[List.getElem?_eq_none (by omega)] at hj
     cases hj
 · have e1:nth SV.any (tm.set j (.p bs.length 0)) t=nth SV.any tm t:=by rw[bw,bw,List.getElem?_set_ne (Ne.symm ht)]
   rw[e1]
   cases hs:nth SV.any tm t with
   | v x=>rw[hs] at ho;exact ho
   | any=>exact trivial
   | p i o=>
    rw[hs] at ho
    obtain⟨h1,h2⟩:=ho
    refine⟨?_,by simp;omega⟩
    rw[h1]
    unfold ptr
    rw[bV _ _ _ _ h2]
   | g c0 p0 x=>
    rw[hs] at ho
    have key : ∀ (x:SV) (y:Value),dt bs x y→dt (bs ++ [(b,0)]) x y:=by
     intro x
     induction x with
     | v z=>exact fun y h=>h
     | any=>exact fun y h=>trivial
     | p i o=>exact fun y h=>⟨by rw[h.1];unfold ptr;rw[bV _ _ _ _ h.2],by have:=h.2;simp;omega⟩
     | g c p x ih=>exact fun y h hc=>ih y (h hc)
    exact key _ _ ho
theorem aS (m n:Nat) (c:Code):cY n (cY m c)=cY (m+n) c:=by
 induction m generalizing c with
 | zero=>rw[Nat.zero_add];rfl
 | succ m ih=>
  rw[show m+1+n=(m+n)+1 from by omega]
  exact ih (DB c)
end
end Go.Sx
