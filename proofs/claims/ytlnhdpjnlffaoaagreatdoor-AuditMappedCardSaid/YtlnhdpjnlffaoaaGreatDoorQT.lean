/- Parts of the proof: AfA, AbW, AfB, AfC. -/
import Derived.Test.YtlnhdpjnlffaoaaGreatDoorQS
import Derived.Test.YtlnhdpjnlffaoaaGreatDoorQP
namespace Go.Proofs.YtlnhdpjnlffaoaaGreatDoor
open Go Go.Sx
set_option maxRecDepth 100000
set_option maxHeartbeats 4000000
set_option linter.unusedVariables false
set_option linter.unusedSimpArgs false
def mapStep (p f:Int) (x:List Se×Bool) (y:Se):List Se×Bool:=
 let x1:=if !x.2&&decide (p≤y.page) then (x.1 ++ [⟨p,f,false⟩],true) else x
 (if y.page=p then x1.1 else x1.1 ++ [y],x1.2)
def dC (l:List Se) (p f:Int):Nat→List Se×Bool
 | 0=>([],false)
 | i+1=>mapStep p f (dC l p f i) l[i]!
def oe (l:List Se) (p f:Int):List Se:=
 if (dC l p f l.length).2 then (dC l p f l.length).1 else (dC l p f l.length).1 ++ [⟨p,f,false⟩]
structure wH (l:List Se):Prop where
 p : ∀ y∈l,vF y=true
 s:l.Pairwise fun a b=>a.page<b.page
theorem oI {l:List Se}:allI l.length (jg l)=true↔wH l:=by
 rw[jh]
 constructor
 · intro h
   have hadj : ∀ j,j+1<l.length→l[j]!.page<l[j+1]!.page:=fun j hj=>by
    have:=h (j+1) hj
    unfold jg at this
    rw[Bool.and_eq_true] at this
    have h2:=this.2
    rw[decide_eq_false (show ¬ j+1=0 by omega),Bool.false_or,show j+1 - 1=j by omega] at h2
    exact of_decide_eq_true h2
   have hlt : ∀ d i,i+d+1<l.length→l[i]!.page<l[i+d+1]!.page:=by
    intro d
    induction d with
    | zero=>exact fun i hi=>hadj i hi
    | succ d ih=>exact fun i hi=>Int.lt_trans (ih i (by omega)) (hadj (i+d+1) hi)
   refine⟨fun y hy=>?_,?_⟩
   · obtain⟨k,hk,rfl⟩:=List.mem_iff_getElem.1 hy
     have:=h k hk
     unfold jg at this
     rw[← cm hk]
     rw[Bool.and_eq_true] at this
     exact this.1
   · rw[List.pairwise_iff_getElem]
     intro i j hi hj hij
     have:=hlt (j - i - 1) i (by omega)
     rw[show i+(j - i - 1)+1=j by omega,cm hi,cm hj] at this
     exact this
 · intro h j hj
   unfold jg
   rw[cm hj,h.p _ (List.getElem_mem hj),Bool.true_and]
   cases j with
   | zero=>simp
   | succ j=>
    have:=List.pairwise_iff_getElem.1 h.s j (j+1) (by omega) hj (by omega)
    rw[show j+1 - 1=j by omega,cm (show j<l.length by omega)]
    simp[this]
theorem wH.snoc {l:List Se} (h:wH l) {y:Se} (hy:vF y=true) (hl : ∀ z∈l,z.page<y.page):wH (l ++ [y]):=by
 refine⟨fun z hz=>?_,?_⟩
 · rcases List.mem_append.1 hz with hz | hz
   · exact h.p z hz
   · rw[List.mem_singleton.1 hz]
     exact hy
 · rw[List.pairwise_append]
   exact⟨h.s,List.pairwise_singleton _ _,fun a ha b hb=>by rw[List.mem_singleton.1 hb];exact hl a ha⟩
structure wk (l:List Se) (p f:Int) (i:Nat) (x:List Se×Bool):Prop where
 g:wH x.1
 len:x.1.length≤i+if x.2 then 1 else 0
 low:x.2=false→∀ z∈x.1,z.page<p
 up : ∀ k,i≤k→k<l.length→∀ z∈x.1,z.page<l[k]!.page
 mem:x.2=true→(⟨p,f,false⟩:Se)∈x.1
 hi:x.2=true→∀ k,i≤k→k<l.length→p<l[k]!.page
theorem mapInv {l:List Se} (hl:wH l) {p f:Int} (hp:vF ⟨p,f,false⟩=true) : ∀ i,i≤l.length→wk l p f i (dC l p f i)
 | 0,_=>⟨⟨fun _ h=>absurd h (List.not_mem_nil),List.Pairwise.nil⟩,Nat.zero_le _,fun _ _ h=>absurd h (List.not_mem_nil),fun _ _ _ _ h=>absurd h (List.not_mem_nil),(fun h=>nomatch h),(fun h=>nomatch h)⟩
 | i+1,hi=>by
  have ih:=mapInv hl hp i (by omega)
  have hlt:i<l.length:=hi
  have hy:vF l[i]! = true:=by rw[cm hlt];exact hl.p _ (List.getElem_mem hlt)
  have hup : ∀ k,i+1≤k→k<l.length→l[i]!.page<l[k]!.page:=fun k h1 h2=>by
   rw[cm hlt,cm h2]
   exact List.pairwise_iff_getElem.1 hl.s i k hlt h2 (by omega)
  have hun:=ih.up i (Nat.le_refl _) hlt
  have hhi:=fun h=>ih.hi h i (Nat.le_refl _) hlt
  obtain⟨g,len,low,up,mem,hi'⟩:=ih
  show wk l p f (i+1) (mapStep p f (dC l p f i) l[i]!)
  revert g len low up mem hi' hun hhi hup hy
  generalize dC l p f i=x
  obtain⟨x,d⟩:=x
  generalize l[i]! = y
  intro hy hup hun hhi g len low up mem hi'
  dsimp only at *
  unfold mapStep
  cases d with
  | true=>
   have hne : ¬ y.page=p:=by have:=hhi rfl;omega
   simp only[Bool.not_true,Bool.false_and,Bool.false_eq_true,if_false,hne]
   refine⟨g.snoc hy hun,?_,(fun h=>nomatch h),fun k h1 h2 z hz=>?_,fun _=>List.mem_append_left _ (mem rfl),fun _ k h1 h2=>hi' rfl k (by omega) h2⟩
   · simp at len ⊢
     omega
   · rcases List.mem_append.1 hz with hz | hz
     · exact up k (by omega) h2 z hz
     · rw[List.mem_singleton.1 hz]
       exact hup k h1 h2
  | false=>
   by_cases hpy:p≤y.page
   · have g1:wH (x ++ [⟨p,f,false⟩]):=g.snoc hp (low rfl)
     have hle : ∀ z∈x ++ [(⟨p,f,false⟩:Se)],z.page≤p:=fun z hz=>by
      rcases List.mem_append.1 hz with hz | hz
      · exact Int.le_of_lt (low rfl z hz)
      · rw[List.mem_singleton.1 hz]
        exact Int.le_refl _
     simp only[Bool.not_false,Bool.true_and,hpy,decide_true,if_true]
     by_cases he:y.page=p
     · rw[if_pos he]
       refine⟨g1,?_,(fun h=>nomatch h),fun k h1 h2 z hz=>?_,fun _=>List.mem_append_right _ List.mem_cons_self,fun _ k h1 h2=>?_⟩
       · simp at len ⊢
         omega
       · have:=hle z hz
         have:=hup k h1 h2
         omega
       · have:=hup k h1 h2
         omega
     · rw[if_neg he]
       refine⟨g1.snoc hy fun z hz=>?_,?_,(fun h=>nomatch h),fun k h1 h2 z hz=>?_,fun _=>List.mem_append_left _ (List.mem_append_right _ List.mem_cons_self),fun _ k h1 h2=>?_⟩
       · have:=hle z hz
         omega
       · simp at len ⊢
         omega
       · have h4:=hup k h1 h2
         rcases List.mem_append.1 hz with hz | hz
         · have:=hle z hz
           omega
         · rw[List.mem_singleton.1 hz]
           exact h4
       · have:=hup k h1 h2
         omega
   · have he : ¬ y.page=p:=by omega
     simp only[Bool.not_false,Bool.true_and,hpy,decide_false,Bool.false_eq_true,if_false,he]
     refine⟨g.snoc hy hun,?_,fun _ z hz=>?_,fun k h1 h2 z hz=>?_,(fun h=>nomatch h),(fun h=>nomatch h)⟩
     · simp at len ⊢
       omega
     · rcases List.mem_append.1 hz with hz | hz
       · exact low rfl z hz
       · rw[List.mem_singleton.1 hz]
         omega
     · rcases List.mem_append.1 hz with hz | hz
       · exact up k (by omega) h2 z hz
       · rw[List.mem_singleton.1 hz]
         exact hup k h1 h2
theorem mc (l:List Se) (p f:Int) : ∀ i,(dC l p f i).1.length≤2*i
 | 0=>Nat.le_refl _
 | i+1=>by
  have:=mc l p f i
  show(mapStep p f (dC l p f i) l[i]!).1.length≤_
  unfold mapStep
  dsimp only
  split<;>split<;>(try simp only[List.length_append,List.length_singleton])<;>omega
theorem ud {l:List Se} (hl:wH l) {p f:Int} (hp:vF ⟨p,f,false⟩=true):wH (oe l p f)∧(⟨p,f,false⟩:Se)∈oe l p f∧(oe l p f).length≤l.length+1:=by
 have h:=mapInv hl hp l.length (Nat.le_refl _)
 unfold oe
 have hlen:=h.len
 cases hd:(dC l p f l.length).2 with
 | true=>
  rw[if_pos rfl]
  rw[hd] at hlen
  exact⟨h.g,h.mem hd,by simpa using hlen⟩
 | false=>
  rw[if_neg (by decide)]
  rw[hd] at hlen
  exact⟨h.g.snoc hp (h.low hd),List.mem_append_right _ List.mem_cons_self,by simpa using hlen⟩
theorem rN (s:bR) (hok:fE s=0) {n:Nat} (h2:16≤n) (h3:n<32) (hw:0<s.wi.l.length) (hww:s.wi.l[0]!.w=true) {p:Int} (hp:0≤p∧p<32) (X:Sl Se) (hX:X.l=oe (s.sp n).l p s.wi.l[0]!.frame) :
 fE { s with sp:=du s.sp n X }=9:=by
 have hall:=uV.1 hok
 have hpa:dW s=true:=hall 1 (by decide) (by decide)
 have hsp : ∀ i,i<32→wH (s.sp i).l:=fun i hi=>by
  unfold dW at hpa
  rw[Bool.and_eq_true] at hpa
  exact oI.1 (jh.1 hpa.1 i hi)
 have hwin:iu s.wi.l 0=true:=by
  unfold dW at hpa
  simp only[Bool.and_eq_true] at hpa
  exact jh.1 hpa.2.2.1 0 hw
 have hse:vF ⟨p,s.wi.l[0]!.frame,false⟩=true:=by
  unfold iu at hwin
  rw[Bool.and_eq_true] at hwin
  have:=of_decide_eq_true hwin.1
  unfold vF
  rw[decide_eq_true_eq]
  dsimp only
  omega
 obtain⟨hg,hm,-⟩:=ud (hsp n h3) hse
 rw[← hX] at hg hm
 refine vJ (by decide) (by decide) ?_ fun k hk1 hk2=>?_
 · show g_ { s with sp:=du s.sp n X }=false
   unfold g_
   refine aZ h3 ?_
   unfold q_
   rw[List.all_eq_false]
   refine⟨_,by show _∈(du s.sp n X n).l;unfold du;rw[if_pos rfl];exact hm,?_⟩
   show ¬ (!mG s.wi.l s.wi.l[0]!.frame)=true
   have:mG s.wi.l s.wi.l[0]!.frame=true:=by
    unfold mG
    rw[List.any_eq_true]
    exact⟨s.wi.l[0]!,by rw[cm hw];exact List.getElem_mem hw,by rw[hww];simp[aO]⟩
   rw[this]
   decide
 · have hk:=hall k hk1 (by omega)
   obtain e | e | e | e | e | e | e | e:k=1∨k=2∨k=3∨k=4∨k=5∨k=6∨k=7∨k=8:=by omega
   · subst e
     show dW { s with sp:=du s.sp n X }=true
     unfold dW at hpa ⊢
     rw[Bool.and_eq_true] at hpa ⊢
     refine⟨bH fun j hj=>?_,hpa.2⟩
     show allI (du s.sp n X j).l.length (jg (du s.sp n X j).l)=true
     unfold du
     split
     · exact oI.2 hg
     · exact oI.2 (hsp j hj)
   · subst e;rw[← hk];rfl
   · subst e;rw[← hk];rfl
   · subst e;rw[← hk];rfl
   · subst e;rw[← hk];rfl
   · subst e
     have h6:allI 32 (jf fun i=>(s.sp i).l.length)=true:=hk
     show allI 32 (jf fun i=>(du s.sp n X i).l.length)=true
     refine bH fun j hj=>?_
     have h7:=jh.1 h6 j hj
     unfold jf at h7 ⊢
     unfold du
     by_cases hjn:j=n
     · simp
       omega
     · simpa [hjn] using h7
   · subst e;rw[← hk];rfl
   · subst e;rw[← hk];rfl
theorem bR.p9.ok {s:bR} (h:s.p9) (hf:fU s 32≤3000):s.Ok:=
 ⟨h,by have:=wy s;unfold sF at this;omega,fun i hi=>by have:=tw s hi;omega⟩
theorem bR.p9.small {s:bR} (h:s.p9) (hf:fU s 32≤3000) (hp:s.pe.l.length≤40) (hl:s.lk.fly.length≤4398046511104):s.Small:=by
 have:=wy s
 unfold sF at this
 exact⟨by omega,by omega,by omega,by omega,by omega,hl,by omega,by omega,by omega⟩
theorem s4 (s:bR) (pr cp gr ti:Hd) (sp:Nat→Hd) (wi fh al pe nw:Hd):fE (s.uM pr cp gr ti sp wi fh al pe nw)=fE s:=by
 unfold bR.uM
 rfl
theorem xz {a m c:Nat} (hm:m≤256) (hm0:0<m) (hc:c≤256):IntKind.i64.wrap ((c:Int)+IntKind.i64.wrap ((a:Int).tmod (m:Int)))=((c+a%m:Nat):Int):=by
 have h1:=Nat.mod_lt a hm0
 have e:(a:Int).tmod (m:Int)=((a%m:Nat):Int):=rfl
 have e2:IntKind.i64.wrap ((a%m:Nat):Int)=((a%m:Nat):Int):=wrap_i64 (by omega)
 rw[e,e2,tc (by omega)]
theorem wF (s:bR):(gj s)[307]? = some s.wi.v:=by kernel_rfl
theorem bR.Ok.yt {s:bR} (h:s.Ok) {n:Nat} {X:Sl Se} (hX:X.Ok) (hl:X.l.length≤1000000):({ s with sp:=du s.sp n X }:bR).Ok:=
 ⟨⟨h.q,h.pr,h.cp,h.gr,h.ti,h.qu,h.pg,fun i hi=>by
  show(du s.sp n X i).Ok
  unfold du
  split
  · exact hX
  · exact h.sp i hi,h.wi,h.bk,h.fh,h.fl,h.wh,h.wl,h.al,h.pe,h.rc,h.ac,h.nw⟩,h.gl,fun i hi=>by
  show(du s.sp n X i).l.length≤1000000
  unfold du
  split
  · exact hl
  · exact h.sl i hi⟩
theorem bR.Rows.yt {s:bR} {w:World} (h:s.Rows w) {n:Nat} {X:Sl Se} (hX:X.At bx w):({ s with sp:=du s.sp n X }:bR).Rows w:=
 ⟨h.q,h.pr,h.cp,h.gr,h.ti,h.qu,h.pg,fun i hi=>by
  show(du s.sp n X i).At bx w
  unfold du
  split
  · exact hX
  · exact h.sp i hi,h.wi,h.bk,h.fl,h.wt,h.al,h.pe,h.rc,h.ac⟩
noncomputable def mapCode:Code:=Tryz.f5.body.getD .skip
def mK (br b10:Nat) (n p:Int) (x:Value) (d:SV):List SV:=[.any,.any,.any,.v (.pointer (some ⟨br,0,none⟩)),.any,.any,.any,.any,.any,.v (.int .i64 n),.v (.pointer (some ⟨b10,0,none⟩)),.v x,.v (.int .i64 p),d]++List.replicate 119 .any
noncomputable def iz:Exit→KT:=jN aT Tryz.f5.results.toList (dm (fun v F=>v = .bool true))
theorem xP (s:bR) (hok:s.Ok) (n:Nat) (hn:n<32) (X:Sl Se) (hX:X.Ok) (hXl:X.l.length≤1000000) (hch:fE { s with sp:=du s.sp n X }=9) (D:World→Prop) (hD : ∀ w,D w→s.Rows w∧bD w) (w0:World) (av:Nat→Prop) (S:List Value) (hSl:S.length=376)
 (hp:laid S (275+n) [X.v]=aQ { s with sp:=du s.sp n X }) (br b10:Nat) (p:Int) (bs:List (Nat×Nat)) (hbs:bs.length=0) :
 az Tryz.prog w0 (fun _ _=>False) av (cu 11 mapCode) (mK br b10 (n:Int) p X.v .any) bs [] ⟨fun w=>D w∧X.At bx w,[(b10,Row.c S)]⟩ iz:=by
 obtain rfl:=List.eq_nil_of_length_eq_zero hbs
 have hC:=fZ _ _ (gR { s with sp:=du s.sp n X }) (hok.yt hX hXl)
 have hEl:(aQ { s with sp:=du s.sp n X }).length=376:=aX _
 obtain⟨S2,hS2⟩ : ∃ S2,aQ { s with sp:=du s.sp n X }=S2:=⟨_,rfl⟩
 rw[hS2] at hC hEl hp
 rw[hch] at hC
 obtain⟨xv,hxv⟩ : ∃ xv,X.v=xv:=⟨_,rfl⟩
 have hone:aW xv=true:=by rw[← hxv];rfl
 have hcl:xv.cells.toList = [xv]:=by rw[← hxv];rfl
 rw[hxv] at hp ⊢
 refine az.aK ae ?_
 conv=>whnf
 repeat (refine aa.of ?_;conv=>whnf)
 refine ar.aj (ak.bE ae rfl rfl rfl n rfl (by omega) rfl ?_)
 conv=>whnf
 repeat (refine aa.of ?_;conv=>whnf)
 refine aM.bF (F':=⟨fun w=>D w∧X.At bx w,[] ++ [(b10,Row.c S)] ++ []⟩) (ao.refl _) ?_
 refine aM.a8 ae rfl (b:=b10) (k:=275+n) (X:=S2) (by rw[iy,Nat.mul_one]) (by rw[hcl];rfl) (by rw[hcl];intro u hu;rw[List.mem_singleton.1 hu];exact hone) (by rw[hSl];show _+1≤376;omega) (by rw[hcl];exact hp) ?_
 conv=>whnf
 repeat (refine aa.of ?_;conv=>whnf)
 repeat' (first
  | (refine And.intro ?_ ?_<;>conv=>whnf)
  | (refine an.same rfl ?_;conv=>whnf)
  | (refine an.row rfl ?_;conv=>whnf)
  | (refine an.call rfl ?_;conv=>whnf)
  | (refine aS.of ?_;conv=>whnf)
  | (refine aa.of ?_;conv=>whnf)
  | (refine ar.aj (ak.aU ae rfl rfl (ad:=⟨b10,0,none⟩) (k:=0) (L:=S2) (m:=S2) (aG.row (by simp)) rfl (by rw[List.drop_zero];exact List.take_of_length_le (by rw[hEl];exact Nat.le_refl _)) hEl ?_);conv=>whnf)
  | (refine aw.val hC (fun w hw=>⟨(hD w hw.1).1.yt hw.2,(hD w hw.1).2⟩) (fun v F hv=>?_);subst hv;conv=>whnf)
  | (refine an.mk ?_ ?_;(focus (first | exact ao.refl _ | exact ao.left _ _ | exact ao.of_le ⟨List.sublist_append_left _ _,fun w h=>h⟩ | exact ao.of_le ⟨List.Sublist.refl _,fun w h=>h.1⟩));conv=>whnf))
 exact⟨_,ao.refl _,congrArg Value.bool (by simp[aO])⟩
theorem wq {l:List Se} {p f:Int}:(oe l p f).length≤2*l.length+1:=by
 have:=mc l p f l.length
 unfold oe
 split
 · omega
 · simp
   omega
theorem xM (s:bR) (hok:s.Ok) (n:Nat) (hn:n<32) (hw:0<s.wi.l.length) (p:Int) (D:World→Prop) (hD : ∀ w,D w→s.Rows w) (w0:World) (av:Nat→Prop) (E S:List Value) (gS:E[275+n]? = some (s.sp n).v) (gW:E[307]? = some s.wi.v) (br b10:Nat) (bs:List (Nat×Nat)) (hbs:bs.length=0)
 (ht : ∀ X:Sl Se,X.l=oe (s.sp n).l p s.wi.l[0]!.frame→X.Ok→∀ bs:List (Nat×Nat),bs.length=0→az Tryz.prog w0 (fun _ _=>False) av (cu 11 mapCode) (mK br b10 (n:Int) p X.v .any) bs [] ⟨fun w=>D w∧X.At bx w,[(b10,Row.c S)]⟩ iz) :
 az Tryz.prog w0 (fun _ _=>False) av (cu 9 mapCode) (mK br b10 (n:Int) p (.slice none 0 0) (.v (.bool false))) bs [] ⟨D,[(br,Row.c E),(b10,Row.c S)]⟩ iz:=by
 obtain rfl:=List.eq_nil_of_length_eq_zero hbs
 have hrowS : ∀ w,D w→af w (s.sp n).h.a ((s.sp n).l.flatMap bx):=fun w h=>(hD w h).sp n hn
 have hrowW : ∀ w,D w→af w s.wi.h.a (s.wi.l.flatMap bc):=fun w h=>(hD w h).wi
 have hSh:=(hok.sp n hn).h
 have hSl:=hok.sl n hn
 have hWh:=hok.wi.h
 have hSv:(s.sp n).v=(s.sp n).h.v (s.sp n).l.length:=rfl
 have hWv:s.wi.v=s.wi.h.v s.wi.l.length:=rfl
 have hWf:(s.wi.l.flatMap bc)[0*4+2]? = some (.int .i64 s.wi.l[0]!.frame):=by
  rw[eY (cf:=bc) (z:=4) (fun _=>rfl) hw (by decide),cm hw]
  rfl
 obtain⟨l,hl⟩ : ∃ l,(s.sp n).l=l:=⟨_,rfl⟩
 obtain⟨h,hh⟩ : ∃ h,(s.sp n).h=h:=⟨_,rfl⟩
 obtain⟨wl,hwl⟩ : ∃ wl,s.wi.l=wl:=⟨_,rfl⟩
 obtain⟨wh,hwh⟩ : ∃ wh,s.wi.h=wh:=⟨_,rfl⟩
 rw[hSv] at gS
 rw[hWv] at gW
 rw[hl] at hrowS hSh hSl gS ht
 rw[hh] at hrowS hSh gS
 rw[hwl] at hrowW hWh gW ht hw hWf
 rw[hwh] at hrowW hWh gW
 obtain⟨f,hf⟩ : ∃ f,wl[0]!.frame=f:=⟨_,rfl⟩
 rw[hf] at ht hWf
 clear hSv hWv hD
 have hlen:=mc l p f
 refine az.bQ ae 1 (ι:=Option Addr×Nat×List Value) (fun x=>Sx.cB 3 (dC l p f l.length).1.length x.1 x.2.1 x.2.2 ((dC l p f l.length).1.flatMap bx)) (fun x=>mK br b10 (n:Int) p (.slice x.1 (dC l p f l.length).1.length x.2.1) (.v (.bool (dC l p f l.length).2))) (fun _=>[])
  (fun x=>⟨D,[(br,Row.c E),(b10,Row.c S)]++bf x.1 x.2.2 ++ []⟩) ?_ ?_
 · conv=>whnf
   repeat (refine aa.of ?_;conv=>whnf)
   refine ar.aj (ak.bE ae rfl rfl rfl n rfl (by omega) rfl ?_)
   conv=>whnf
   repeat (refine aa.of ?_;conv=>whnf)
   refine ar.aj (ak.aE ae rfl rfl (ad:=⟨br,0,none⟩) (k:=275+n) (L:=E) (v:=h.v l.length) (aG.row (by simp)) (fun _=>by rw[iy,Nat.mul_one];simp[Addr.add]) gS ?_)
   conv=>whnf
   repeat (refine aa.of ?_;conv=>whnf)
   refine az.loop ae (ι:=Nat×Option Addr×Nat×List Value) ([11,13,14,15]++List.range' 69 37) (fun x=>x.1≤l.length∧Sx.cB 3 (dC l p f x.1).1.length x.2.1 x.2.2.1 x.2.2.2 ((dC l p f x.1).1.flatMap bx))
    (fun x=>[(11,.v (.slice x.2.1 (dC l p f x.1).1.length x.2.2.1)),(13,.v (.bool (dC l p f x.1).2)),(69,.v (.int .i64 (x.1:Int)))]) (fun _=>[]) (fun x=>⟨D,[(br,Row.c E),(b10,Row.c S)]++bf x.2.1 x.2.2.2 ++ []⟩)
    (fun x=>l.length - x.1) (0,none,0,[]) ⟨Nat.zero_le _,Sx.cB.nil 3⟩ ?_ rfl (ao.of_le ⟨by simp[bf],fun w hw=>hw⟩) fun⟨i,a,c,C⟩ hi=>?_
   · conv=>whnf
     repeat (first | exact ax.nil | refine ax.any ?_ | refine ax.cons ?_)
   dsimp only at hi ⊢
   obtain⟨hi,hO⟩:=hi
   conv=>whnf
   repeat (refine aa.of ?_;conv=>whnf)
   refine bT.split (fun hlt=>?_) (fun hlt=>?_)
   · have hlt':i<l.length:=by
      simp only[au,decide_eq_true_eq] at hlt
      omega
     obtain⟨y,hy⟩ : ∃ y,l[i]=y:=⟨_,rfl⟩
     have hst:dC l p f (i+1)=mapStep p f (dC l p f i) y:=by rw[← hy,← cm hlt'];rfl
     have hli:=hlen i
     obtain⟨st,hste⟩ : ∃ st,dC l p f i=st:=⟨_,rfl⟩
     rw[hste] at hst hO hli ⊢
     obtain⟨x,d⟩:=st
     dsimp only at hO hli ⊢
     conv=>whnf
     repeat (refine aa.of ?_;conv=>whnf)
     refine ar.aj (ak.bE ae rfl rfl rfl n rfl (by omega) rfl ?_)
     conv=>whnf
     repeat (refine aa.of ?_;conv=>whnf)
     refine ar.aj (ak.aE ae rfl rfl (ad:=⟨br,0,none⟩) (k:=275+n) (L:=E) (v:=h.v l.length) (aG.row (by simp)) (fun _=>by rw[iy,Nat.mul_one];simp[Addr.add]) gS ?_)
     conv=>whnf
     repeat (refine aa.of ?_;conv=>whnf)
     refine ar.aj (ak.index ae (t:=44) rfl rfl rfl (by omega) (by omega) hSh.nil fun ad had=>?_)
     conv=>whnf
     repeat (refine aa.of ?_;conv=>whnf)
     refine ar.aj (ak.aU ae rfl rfl (ad:=ad) (k:=i*3) (L:=l.flatMap bx) (m:=bx y) (.fact fun w hw=>had ▸ hrowS w hw) (by simp) (by rw[← hy];exact bj (cf:=bx) (z:=3) (fun _=>rfl) hlt') rfl ?_)
     conv=>whnf
     repeat (refine aa.of ?_;conv=>whnf)
     intro b15
     conv=>whnf
     repeat (refine aa.of ?_;conv=>whnf)
     cases d
     · refine bT.split (fun h1=>?_) (fun h1=>?_)
       · have h1':p≤y.page:=by simpa [aI] using h1
         conv=>whnf
         repeat (refine aa.of ?_;conv=>whnf)
         refine ar.aj (ak.aE ae rfl rfl (ad:=⟨br,0,none⟩) (k:=307) (L:=E) (v:=wh.v wl.length) (aG.row (by simp)) (fun _=>rfl) gW ?_)
         conv=>whnf
         repeat (refine aa.of ?_;conv=>whnf)
         refine ar.aj (ak.index ae (t:=47) rfl rfl rfl (by omega) (by omega) hWh.nil fun ad2 had2=>?_)
         conv=>whnf
         repeat (refine aa.of ?_;conv=>whnf)
         refine ar.aj (ak.aE ae rfl rfl (ad:=ad2) (k:=0*4+2) (L:=wl.flatMap bc) (v:=.int .i64 f) (.fact fun w hw=>had2 ▸ hrowW w hw) (fun hs=>by rw[Addr.cV hs];rfl) hWf ?_)
         conv=>whnf
         repeat (refine aa.of ?_;conv=>whnf)
         refine ar.build ae rfl rfl rfl [.agg ⟨bx ((⟨p,f,false⟩:Se))⟩] rfl rfl (by simp[Value.cells,bx]) (by decide) fun b5=>?_
         conv=>whnf
         repeat (refine aa.of ?_;conv=>whnf)
         refine ar.bF (F':=⟨D,[(br,Row.c E),(b10,Row.c S)]++bf a C ++ [(b5,Row.c (bx ((⟨p,f,false⟩:Se))))]⟩) (ao.of_le ⟨by simp[Value.cells,bx],fun w hw=>hw⟩) ?_
         refine ar.cW ae rfl rfl rfl rfl rfl rfl (M:=bx ((⟨p,f,false⟩:Se))) hO (aG.row (by simp)) rfl (List.all_eq_true.1 (by rfl)) (by omega) (by show(x.length+(x.length)/4+600)*24≤2 ^ 48;omega) fun a1 c1 C1 hO1=>?_
         conv=>whnf
         repeat (refine aa.of ?_;conv=>whnf)
         refine bT.split (fun h2=>?_) (fun h2=>?_)
         · have h2' : ¬ y.page=p:=by simpa [aN] using h2
           conv=>whnf
           repeat (refine aa.of ?_;conv=>whnf)
           refine ar.build ae rfl rfl rfl [.agg ⟨bx (y)⟩] rfl rfl (by simp[Value.cells,bx]) (by decide) fun b6=>?_
           conv=>whnf
           repeat (refine aa.of ?_;conv=>whnf)
           refine ar.bF (F':=⟨D,[(br,Row.c E),(b10,Row.c S)]++bf a1 C1 ++ [(b6,Row.c (bx (y)))]⟩) (ao.of_le ⟨by simp[Value.cells,bx],fun w hw=>hw⟩) ?_
           refine ar.cW ae rfl rfl rfl rfl rfl rfl (M:=bx (y)) hO1 (aG.row (by simp)) rfl (List.all_eq_true.1 (by rfl)) (by omega) (by show(x.length+1+(x.length+1)/4+600)*24≤2 ^ 48;omega) fun a2 c2 C2 hO2=>?_
           conv=>whnf
           repeat (refine aa.of ?_;conv=>whnf)
           have hnew:dC l p f (i+1)=(x ++ [(⟨p,f,false⟩:Se)] ++ [y],true):=by
            rw[hst]
            unfold mapStep
            simp[h1',h2']
           have hL : ∀ a c,SV.v (.slice a (x.length+1+1) c)=SV.v (.slice a (x ++ [(⟨p,f,false⟩:Se)] ++ [y]).length c):=fun a c=>by simp
           refine⟨(i+1,a2,c2,C2),⟨⟨hlt',?_⟩,by dsimp only;omega⟩,?_,?_,ao.of_le ⟨by simp,fun w hw=>hw⟩⟩
           · dsimp only
             rw[hnew]
             simpa using hO2
           · dsimp only
             rw[hnew]
             conv=>whnf
             refine⟨?_,rfl⟩
             repeat (first | exact ax.nil | refine ax.any ?_ | refine ax.cons ?_ | refine ax.eq (hL _ _) ?_ | refine ax.eq (by rw[wrap_i64 (by omega)];rfl) ?_)
           · conv=>whnf
             exact trivial
         · have h2':y.page=p:=by simpa [aN] using h2
           conv=>whnf
           repeat (refine aa.of ?_;conv=>whnf)
           have hnew:dC l p f (i+1)=(x ++ [(⟨p,f,false⟩:Se)],true):=by
            rw[hst]
            unfold mapStep
            simp[h1',h2']
           have hL : ∀ a c,SV.v (.slice a (x.length+1) c)=SV.v (.slice a (x ++ [(⟨p,f,false⟩:Se)]).length c):=fun a c=>by simp
           refine⟨(i+1,a1,c1,C1),⟨⟨hlt',?_⟩,by dsimp only;omega⟩,?_,?_,ao.of_le ⟨by simp,fun w hw=>hw⟩⟩
           · dsimp only
             rw[hnew]
             simpa using hO1
           · dsimp only
             rw[hnew]
             conv=>whnf
             refine⟨?_,rfl⟩
             repeat (first | exact ax.nil | refine ax.any ?_ | refine ax.cons ?_ | refine ax.eq (hL _ _) ?_ | refine ax.eq (by rw[wrap_i64 (by omega)];rfl) ?_)
           · conv=>whnf
             exact trivial
       · have h1' : ¬ p≤y.page:=by simpa [aI] using h1
         conv=>whnf
         repeat (refine aa.of ?_;conv=>whnf)
         refine bT.split (fun h2=>?_) (fun h2=>?_)
         · have h2' : ¬ y.page=p:=by simpa [aN] using h2
           conv=>whnf
           repeat (refine aa.of ?_;conv=>whnf)
           refine ar.build ae rfl rfl rfl [.agg ⟨bx (y)⟩] rfl rfl (by simp[Value.cells,bx]) (by decide) fun b6=>?_
           conv=>whnf
           repeat (refine aa.of ?_;conv=>whnf)
           refine ar.bF (F':=⟨D,[(br,Row.c E),(b10,Row.c S)]++bf a C ++ [(b6,Row.c (bx (y)))]⟩) (ao.of_le ⟨by simp[Value.cells,bx],fun w hw=>hw⟩) ?_
           refine ar.cW ae rfl rfl rfl rfl rfl rfl (M:=bx (y)) hO (aG.row (by simp)) rfl (List.all_eq_true.1 (by rfl)) (by omega) (by show(x.length+(x.length)/4+600)*24≤2 ^ 48;omega) fun a2 c2 C2 hO2=>?_
           conv=>whnf
           repeat (refine aa.of ?_;conv=>whnf)
           have hnew:dC l p f (i+1)=(x ++ [y],false):=by
            rw[hst]
            unfold mapStep
            simp[h1',h2']
           have hL : ∀ a c,SV.v (.slice a (x.length+1) c)=SV.v (.slice a (x ++ [y]).length c):=fun a c=>by simp
           refine⟨(i+1,a2,c2,C2),⟨⟨hlt',?_⟩,by dsimp only;omega⟩,?_,?_,ao.of_le ⟨by simp,fun w hw=>hw⟩⟩
           · dsimp only
             rw[hnew]
             simpa using hO2
           · dsimp only
             rw[hnew]
             conv=>whnf
             refine⟨?_,rfl⟩
             repeat (first | exact ax.nil | refine ax.any ?_ | refine ax.cons ?_ | refine ax.eq (hL _ _) ?_ | refine ax.eq (by rw[wrap_i64 (by omega)];rfl) ?_)
           · conv=>whnf
             exact trivial
         · exfalso
           have h2':y.page=p:=by simpa [aN] using h2
           omega
     · refine bT.split (fun h2=>?_) (fun h2=>?_)
       · have h2' : ¬ y.page=p:=by simpa [aN] using h2
         conv=>whnf
         repeat (refine aa.of ?_;conv=>whnf)
         refine ar.build ae rfl rfl rfl [.agg ⟨bx (y)⟩] rfl rfl (by simp[Value.cells,bx]) (by decide) fun b6=>?_
         conv=>whnf
         repeat (refine aa.of ?_;conv=>whnf)
         refine ar.bF (F':=⟨D,[(br,Row.c E),(b10,Row.c S)]++bf a C ++ [(b6,Row.c (bx (y)))]⟩) (ao.of_le ⟨by simp[Value.cells,bx],fun w hw=>hw⟩) ?_
         refine ar.cW ae rfl rfl rfl rfl rfl rfl (M:=bx (y)) hO (aG.row (by simp)) rfl (List.all_eq_true.1 (by rfl)) (by omega) (by show(x.length+(x.length)/4+600)*24≤2 ^ 48;omega) fun a2 c2 C2 hO2=>?_
         conv=>whnf
         repeat (refine aa.of ?_;conv=>whnf)
         have hnew:dC l p f (i+1)=(x ++ [y],true):=by
          rw[hst]
          unfold mapStep
          simp[h2']
         have hL : ∀ a c,SV.v (.slice a (x.length+1) c)=SV.v (.slice a (x ++ [y]).length c):=fun a c=>by simp
         refine⟨(i+1,a2,c2,C2),⟨⟨hlt',?_⟩,by dsimp only;omega⟩,?_,?_,ao.of_le ⟨by simp,fun w hw=>hw⟩⟩
         · dsimp only
           rw[hnew]
           simpa using hO2
         · dsimp only
           rw[hnew]
           conv=>whnf
           refine⟨?_,rfl⟩
           repeat (first | exact ax.nil | refine ax.any ?_ | refine ax.cons ?_ | refine ax.eq (hL _ _) ?_ | refine ax.eq (by rw[wrap_i64 (by omega)];rfl) ?_)
         · conv=>whnf
           exact trivial
       · have h2':y.page=p:=by simpa [aN] using h2
         conv=>whnf
         repeat (refine aa.of ?_;conv=>whnf)
         have hnew:dC l p f (i+1)=(x,true):=by
          rw[hst]
          unfold mapStep
          simp[h2']
         have hL : ∀ a c,SV.v (.slice a (x.length) c)=SV.v (.slice a (x).length c):=fun a c=>rfl
         refine⟨(i+1,a,c,C),⟨⟨hlt',?_⟩,by dsimp only;omega⟩,?_,?_,ao.of_le ⟨by simp,fun w hw=>hw⟩⟩
         · dsimp only
           rw[hnew]
           simpa using hO
         · dsimp only
           rw[hnew]
           conv=>whnf
           refine⟨?_,rfl⟩
           repeat (first | exact ax.nil | refine ax.any ?_ | refine ax.cons ?_ | refine ax.eq (hL _ _) ?_ | refine ax.eq (by rw[wrap_i64 (by omega)];rfl) ?_)
         · conv=>whnf
           exact trivial
   · have hie:i=l.length:=by
      simp only[au,decide_eq_false_iff_not] at hlt
      omega
     subst hie
     conv=>whnf
     repeat (refine aa.of ?_;conv=>whnf)
     refine⟨(a,c,C),hO,[],⟨by decide,by simp,rfl⟩,?_,ao.refl _⟩
     repeat (first | exact ax.nil | refine ax.any ?_ | refine ax.cons ?_)
 · rintro⟨a,c,C⟩ hO bs' hbs'
   dsimp only at hO ⊢
   rw[aP]
   have hlx:=hlen l.length
   have hml:oe l p f=if (dC l p f l.length).2 then (dC l p f l.length).1 else (dC l p f l.length).1 ++ [⟨p,f,false⟩]:=rfl
   obtain⟨x,hx⟩ : ∃ x,dC l p f l.length=x:=⟨_,rfl⟩
   rw[hx] at hml hO hlx ⊢
   obtain⟨x,d⟩:=x
   dsimp only at hml hO hlx ⊢
   rw[hml] at ht
   clear hml
   obtain rfl:=List.eq_nil_of_length_eq_zero hbs'
   refine az.bQ ae 1 (ι:=Sl Se) (fun X=>X.l=(if d then x else x ++ [⟨p,f,false⟩])∧X.Ok) (fun X=>mK br b10 (n:Int) p X.v .any) (fun _=>[]) (fun X=>⟨fun w=>D w∧X.At bx w,[(b10,Row.c S)]⟩) ?_ ?_
   · cases d
     · conv=>whnf
       repeat (refine aa.of ?_;conv=>whnf)
       refine ar.aj (ak.aE ae rfl rfl (ad:=⟨br,0,none⟩) (k:=307) (L:=E) (v:=wh.v wl.length) (aG.row (by simp)) (fun _=>rfl) gW ?_)
       conv=>whnf
       repeat (refine aa.of ?_;conv=>whnf)
       refine ar.aj (ak.index ae (t:=47) rfl rfl rfl (by omega) (by omega) hWh.nil fun ad2 had2=>?_)
       conv=>whnf
       repeat (refine aa.of ?_;conv=>whnf)
       refine ar.aj (ak.aE ae rfl rfl (ad:=ad2) (k:=0*4+2) (L:=wl.flatMap bc) (v:=.int .i64 f) (.fact fun w hw=>had2 ▸ hrowW w hw) (fun hs=>by rw[Addr.cV hs];rfl) hWf ?_)
       conv=>whnf
       repeat (refine aa.of ?_;conv=>whnf)
       refine ar.build ae rfl rfl rfl [.agg ⟨bx ((⟨p,f,false⟩:Se))⟩] rfl rfl (by simp[Value.cells,bx]) (by decide) fun b5=>?_
       conv=>whnf
       repeat (refine aa.of ?_;conv=>whnf)
       refine ar.bF (F':=⟨D,[(br,Row.c E),(b10,Row.c S)]++bf a C ++ [(b5,Row.c (bx ((⟨p,f,false⟩:Se))))]⟩) (ao.of_le ⟨by simp[Value.cells,bx],fun w hw=>hw⟩) ?_
       refine ar.cW ae rfl rfl rfl rfl rfl rfl (M:=bx ((⟨p,f,false⟩:Se))) hO (aG.row (by simp)) rfl (List.all_eq_true.1 (by rfl)) (by omega) (by show(x.length+(x.length)/4+600)*24≤2 ^ 48;omega) fun a1 c1 C1 hO1=>?_
       conv=>whnf
       repeat (refine aa.of ?_;conv=>whnf)
       have hX:(⟨⟨a1,c1⟩,x ++ [(⟨p,f,false⟩:Se)]⟩:Sl Se).Ok:=⟨⟨fun h=>by have:=hO1.cc h;simp at this,by simpa using hO1.fit⟩,by simp;omega⟩
       have hO2:Sx.cB 3 (x.length+1) a1 c1 C1 ((x ++ [(⟨p,f,false⟩:Se)]).flatMap bx):=by simpa using hO1
       refine⟨⟨⟨a1,c1⟩,x ++ [(⟨p,f,false⟩:Se)]⟩,⟨rfl,hX⟩,[],⟨by decide,by simp,rfl⟩,?_,ao.trans hO2.share (ao.of_le ⟨by simp,fun w hw=>hw⟩)⟩
       have hL:SV.v (.slice a1 (x.length+1) c1)=SV.v (Sl.v (⟨⟨a1,c1⟩,x ++ [(⟨p,f,false⟩:Se)]⟩:Sl Se)):=by simp[Sl.v,Hd.v]
       repeat (first | exact ax.nil | refine ax.any ?_ | refine ax.cons ?_ | refine ax.eq hL ?_)
     · conv=>whnf
       repeat (refine aa.of ?_;conv=>whnf)
       have hX:(⟨⟨a,c⟩,x⟩:Sl Se).Ok:=⟨⟨fun h=>hO.cc h,hO.fit⟩,by simp;omega⟩
       refine⟨⟨⟨a,c⟩,x⟩,⟨rfl,hX⟩,[],⟨by decide,by simp,rfl⟩,?_,ao.trans hO.share (ao.of_le ⟨by simp,fun w hw=>hw⟩)⟩
       repeat (first | exact ax.nil | refine ax.any ?_ | refine ax.cons ?_)
   · intro X hX bs' hbs'
     rw[aP]
     exact ht X hX.1 hX.2 bs' hbs'
theorem vq (s:bR) (n:Nat) (hn:n<32):(aQ { s with sp:=du s.sp n ⟨Hd.nil,[]⟩ })[275+n]? = some (.slice none 0 0):=by
 have h:=(gR { s with sp:=du s.sp n ⟨Hd.nil,[]⟩ }).sp n hn
 rw[h]
 show some (Sl.v (du s.sp n ⟨Hd.nil,[]⟩ n))=_
 unfold du
 rw[if_pos rfl]
 rfl
def vr (br b n:Nat):List SV:=[.any,.any,.v (.int .u8 (b:Int)),.v (.pointer (some ⟨br,0,none⟩)),.any,.any,.any,.any,.any,.v (.int .i64 (n:Int))]++List.replicate 123 .any
def vT (br b b10 n:Nat):List SV:=[.any,.any,.v (.int .u8 (b:Int)),.v (.pointer (some ⟨br,0,none⟩)),.any,.any,.any,.any,.any,.v (.int .i64 (n:Int)),.v (.pointer (some ⟨b10,0,none⟩))]++List.replicate 122 .any
theorem vG (s s2:bR) (b n:Nat) (hn2:n<32) (p:Int) (hcB:IntKind.i64.wrap ((b:Int).tmod 32)=p) (w0:World) (av:Nat→Prop) (E:List Value) (br b10:Nat) (bs:List (Nat×Nat)) (hbs:bs.length=0) (S:List Value) (hS:aQ s2=S)
 (ht : ∀ bs:List (Nat×Nat),bs.length=0→az Tryz.prog w0 (fun _ _=>False) av (cu 9 mapCode) (mK br b10 (n:Int) p (.slice none 0 0) (.v (.bool false))) bs [] ⟨fun w=>((s.Rows w∧s.nw.At aR w)∧bD w)∧s2.Rows w,[(br,Row.c E),(b10,Row.c (aQ { s2 with sp:=du s2.sp n ⟨Hd.nil,[]⟩ }))]⟩ iz) :
 az Tryz.prog w0 (fun _ _=>False) av (cu 5 mapCode) (vT br b b10 n) bs [] ⟨fun w=>((s.Rows w∧s.nw.At aR w)∧bD w)∧s2.Rows w,[(br,Row.c E),(b10,Row.c S)]⟩ iz:=by
 obtain rfl:=List.eq_nil_of_length_eq_zero hbs
 have hS0:=vq s2 n hn2
 have hput:=sm s2 ⟨Hd.nil,[]⟩ n hn2
 have hSl:(aQ s2).length=376:=aX _
 obtain⟨S0,hS0e⟩ : ∃ S0,aQ { s2 with sp:=du s2.sp n ⟨Hd.nil,[]⟩ }=S0:=⟨_,rfl⟩
 rw[hS] at hput hSl
 rw[hS0e] at hS0 hput ht
 refine az.bQ ae 4 (ι:=Unit) (fun _=>True) (fun _=>mK br b10 (n:Int) p (.slice none 0 0) (.v (.bool false))) (fun _=>[])
  (fun _=>⟨fun w=>((s.Rows w∧s.nw.At aR w)∧bD w)∧s2.Rows w,[(br,Row.c E),(b10,Row.c S0)]⟩) ?_ ?_
 · conv=>whnf
   repeat (refine aa.of ?_;conv=>whnf)
   refine ar.aj (ak.bE ae rfl rfl rfl n rfl (by omega) rfl ?_)
   conv=>whnf
   repeat (refine aa.of ?_;conv=>whnf)
   refine aM.bF (F':=⟨fun w=>((s.Rows w∧s.nw.At aR w)∧bD w)∧s2.Rows w,[(br,Row.c E)] ++ [(b10,Row.c S)] ++ []⟩) (ao.refl _) ?_
   refine aM.a8 ae rfl (b:=b10) (k:=275+n) (X:=S0) (by rw[iy,Nat.mul_one]) rfl (List.all_eq_true.1 (by rfl)) (by rw[hSl];show _+1≤376;omega) hput ?_
   conv=>whnf
   repeat (refine aa.of ?_;conv=>whnf)
   refine ar.aj (ak.bE ae rfl rfl rfl n rfl (by omega) rfl ?_)
   conv=>whnf
   repeat (refine aa.of ?_;conv=>whnf)
   refine ar.aj (ak.aE ae rfl rfl (ad:=⟨b10,0,none⟩) (k:=275+n) (L:=S0) (v:=.slice none 0 0) (aG.row (by simp)) (fun _=>by rw[iy,Nat.mul_one];simp[Addr.add]) hS0 ?_)
   conv=>whnf
   repeat (refine aa.of ?_;conv=>whnf)
   refine⟨(),trivial,[],⟨by decide,by simp,rfl⟩,?_,ao.of_le ⟨by simp,fun w hw=>hw⟩⟩
   repeat (first | exact ax.nil | refine ax.any ?_ | refine ax.cons ?_ | refine ax.eq (congrArg (fun z=>SV.v (Value.int .i64 z)) hcB) ?_)
 · intro _ _ bs' hbs'
   rw[aP]
   exact ht bs' hbs'
theorem uk (s:bR) (hok:s.Ok) (hsm:s.Small) (h0:fE s=0) (hw0:0<s.wi.l.length) (hww:s.wi.l[0]!.w=true) (b n:Nat) (hn1:16≤n) (hn2:n<32) (hsl:(s.sp n).l.length≤3000) (p:Int) (hp:0≤p∧p<32) (hcB:IntKind.i64.wrap ((b:Int).tmod 32)=p) (w0:World) (av:Nat→Prop) (E:List Value) (hE:gj s=E) (br:Nat) (bs:List (Nat×Nat)) (hbs:bs.length=0) :
 az Tryz.prog w0 (fun _ _=>False) av (cu 4 mapCode) (vr br b n) bs [] ⟨fun w=>(s.Rows w∧s.nw.At aR w)∧bD w,[(br,Row.c E)]⟩ iz:=by
 obtain rfl:=List.eq_nil_of_length_eq_zero hbs
 have hTo:=tn s hok hsm
 have hEl:(gj s).length=380:=lX s
 have gW:=wF s
 have gSp : ∀ n,n<32→(gj s)[275+n]? = some (s.sp n).v:=sn s
 rw[hE] at hEl gW gSp hTo
 obtain⟨Z,hZ⟩ : ∃ Z,aQ jr=Z:=⟨_,rfl⟩
 have hZl:Z.length=376:=by rw[← hZ];exact aX _
 refine az.bQ ae 1 (ι:=Nat×bR×List Value) (fun x=>(fE x.2.1=0∧x.2.1.Ok∧x.2.1.wi.l=s.wi.l∧(x.2.1.sp n).l=(s.sp n).l)∧aQ x.2.1=x.2.2)
  (fun x=>vT br b x.1 n) (fun _=>[])
  (fun x=>⟨fun w=>((s.Rows w∧s.nw.At aR w)∧bD w)∧x.2.1.Rows w,[(br,Row.c E),(x.1,Row.c x.2.2)]⟩) ?_ ?_
 · conv=>whnf
   repeat (refine aa.of ?_;conv=>whnf)
   repeat' (first
    | (refine And.intro ?_ ?_<;>conv=>whnf)
    | (refine an.same rfl ?_;conv=>whnf)
    | (refine an.row rfl ?_;conv=>whnf)
    | (refine an.call rfl ?_;conv=>whnf)
    | (refine aS.of ?_;conv=>whnf)
    | (refine aa.of ?_;conv=>whnf)
    | (refine ar.aj (ak.aU ae rfl rfl (ad:=⟨br,0,none⟩) (k:=0) (L:=E) (m:=E) (aG.row (by simp[Fx.and])) rfl (by rw[List.drop_zero];exact List.take_of_length_le (by rw[hEl];exact Nat.le_refl _)) hEl ?_);conv=>whnf)
    | (refine aw.pure hTo (fun w hw=>hw.1) (fun v F hv=>?_);obtain⟨pr2,cp2,gr2,ti2,sp2,wi2,fh2,al2,pe2,nw2,rfl,hok2,rfl⟩:=hv;conv=>whnf)
    | (refine an.mk ?_ ?_;(focus (first | exact ao.refl _ | exact ao.left _ _ | exact ao.of_le ⟨List.sublist_append_left _ _,fun w h=>h⟩ | exact ao.of_le ⟨List.Sublist.refl _,fun w h=>h.1⟩));conv=>whnf))
   have h9:fE (s.uM pr2 cp2 gr2 ti2 sp2 wi2 fh2 al2 pe2 nw2)=0:=by rw[s4];exact h0
   have hwl2:(s.uM pr2 cp2 gr2 ti2 sp2 wi2 fh2 al2 pe2 nw2).wi.l=s.wi.l:=rfl
   have hsl2:((s.uM pr2 cp2 gr2 ti2 sp2 wi2 fh2 al2 pe2 nw2).sp n).l=(s.sp n).l:=rfl
   obtain⟨s2,hs2⟩ : ∃ s2,s.uM pr2 cp2 gr2 ti2 sp2 wi2 fh2 al2 pe2 nw2=s2:=⟨_,rfl⟩
   rw[hs2] at h9 hwl2 hsl2 hok2 ⊢
   have hSl:(aQ s2).length=376:=aX _
   have hS1 : ∀ v∈aQ s2,aW v=true:=(gR s2).one
   obtain⟨S,hS⟩ : ∃ S,aQ s2=S:=⟨_,rfl⟩
   rw[hS] at hSl hS1 ⊢
   conv=>whnf
   repeat (refine aa.of ?_;conv=>whnf)
   refine ar.cY ae rfl (z:=Z) (by rw[← hZ];kernel_rfl) fun b10=>?_
   conv=>whnf
   repeat (refine aa.of ?_;conv=>whnf)
   refine aM.bF (F':=⟨fun w=>((s.Rows w∧s.nw.At aR w)∧bD w)∧s2.Rows w,[(br,Row.c E)] ++ [(b10,Row.c Z)] ++ []⟩) (ao.of_le ⟨by simp[Fx.and],fun w hw=>⟨hw.1,hw.2.1⟩⟩) ?_
   refine aM.a8 ae rfl (b:=b10) (k:=0) (X:=S) rfl (by exact hSl) (by exact hS1) (by rw[hZl];exact Nat.le_refl _) (cE (by rw[hZl];exact hSl)) ?_
   conv=>whnf
   repeat (refine aa.of ?_;conv=>whnf)
   refine⟨(b10,s2,S),⟨⟨h9,hok2,hwl2,hsl2⟩,hS⟩,[],⟨by decide,by simp,rfl⟩,?_,ao.of_le ⟨by simp,fun w hw=>hw⟩⟩
   repeat (first | exact ax.nil | refine ax.any ?_ | refine ax.cons ?_)
 · rintro⟨b10,s2,S⟩ hx bs' hbs'
   dsimp only at hx ⊢
   obtain⟨⟨h0,hok2,hwl2,hsl2⟩,hS⟩:=hx
   rw[aP]
   refine vG s s2 b n hn2 p hcB w0 av E br b10 bs' hbs' S hS fun bs' hbs'=>?_
   refine xM s hok n hn2 hw0 p (fun w=>((s.Rows w∧s.nw.At aR w)∧bD w)∧s2.Rows w) (fun w hw=>hw.1.1.1) w0 av E _ (gSp n hn2) gW br b10 bs' hbs' fun X hX hXo bs hbs=>?_
   have hwn:0<s2.wi.l.length:=by rw[hwl2];exact hw0
   have hwf:s2.wi.l[0]!.frame=s.wi.l[0]!.frame:=by rw[hwl2]
   have hww2:s2.wi.l[0]!.w=true:=by rw[hwl2];exact hww
   have hch:=rN s2 h0 hn1 hn2 hwn hww2 hp X (by rw[hX,hsl2,hwf])
   have hlen:X.l.length≤1000000:=by
    rw[hX]
    have h1:=wq (l:=(s.sp n).l) (p:=p) (f:=s.wi.l[0]!.frame)
    omega
   refine xP s2 hok2 n hn2 X hXo hlen hch (fun w=>((s.Rows w∧s.nw.At aR w)∧bD w)∧s2.Rows w) (fun w hw=>⟨hw.2,hw.1.2⟩) w0 av _ (aX _) ?_ br b10 p bs hbs
   have:=sm { s2 with sp:=du s2.sp n ⟨Hd.nil,[]⟩ } X n hn2
   rw[this]
   show aQ { s2 with sp:=du (du s2.sp n ⟨Hd.nil,[]⟩) n X }=_
   rw[tq]
theorem so (hA:ah Tryz.prog 7 [] bD (fun v F=>v = .bool true)) (s:bR) (ho:s.p9) (hd : ∀ i,i<32→(s.T i).data.n≤140737488355328) (hfl:s.lk.fly.length≤4398046511104) (a b:Nat) :
 ah Tryz.prog 5 [.agg ⟨gj s⟩,.int .u8 a,.int .u8 b] (fun w=>(s.Rows w∧s.nw.At aR w)∧bD w) (fun v F=>v = .bool true):=by
 have hF:=uW s ho hd
 have hEl:(gj s).length=380:=lX s
 have hn:=Nat.mod_lt a (show 0<16 by decide)
 have hpl:=Nat.mod_lt b (show 0<32 by decide)
 have gW:=wF s
 obtain⟨E,hE⟩ : ∃ E,gj s=E:=⟨_,rfl⟩
 rw[hE] at hEl hF gW
 rw[hE]
 have hcA:IntKind.i64.wrap (16+IntKind.i64.wrap ((a:Int).tmod 16))=((16+a%16:Nat):Int):=xz (m:=16) (c:=16) (by decide) (by decide) (by decide)
 have hcB:IntKind.i64.wrap ((b:Int).tmod 32)=((b%32:Nat):Int):=by
  have e:(b:Int).tmod 32=((b%32:Nat):Int):=rfl
  rw[e,wrap_i64 (by omega)]
 obtain⟨n,hne⟩ : ∃ n,16+a%16=n:=⟨_,rfl⟩
 obtain⟨p,hpe⟩ : ∃ p:Int,((b%32:Nat):Int)=p:=⟨_,rfl⟩
 rw[hne] at hcA
 rw[hpe] at hcB
 have hn1:16≤n:=by omega
 have hn2:n<32:=by omega
 have hp:0≤p∧p<32:=by omega
 clear hn hne hpe hpl
 have hWv:s.wi.v=s.wi.h.v s.wi.l.length:=rfl
 rw[hWv] at gW
 refine ah.fL ae Tryz.func5 (c:=mapCode) rfl (by decide) (n:=Tryz.f5.ntmps - 3) rfl fun w0 av=>?_
 show az Tryz.prog w0 (fun _ _=>False) av mapCode _ [] [] _ iz
 refine az.bQ ae 4 (ι:=Nat) (fun x=>((fU s 32≤3000∧s.pe.l.length≤40)∧fE s=0)∧(0<s.wi.l.length∧s.wi.l[0]!.w=true)) (fun x=>vr x b n) (fun _=>[])
  (fun x=>⟨fun w=>(s.Rows w∧s.nw.At aR w)∧bD w,[(x,Row.c E)]⟩) ?_ ?_
 · conv=>whnf
   repeat (refine aa.of ?_;conv=>whnf)
   refine ar.cA fun br=>?_
   conv=>whnf
   repeat (refine aa.of ?_;conv=>whnf)
   repeat' (first
    | (refine And.intro ?_ ?_<;>conv=>whnf)
    | (refine an.same rfl ?_;conv=>whnf)
    | (refine an.row rfl ?_;conv=>whnf)
    | (refine an.call rfl ?_;conv=>whnf)
    | (refine aS.of ?_;conv=>whnf)
    | (refine aa.of ?_;conv=>whnf)
    | (refine aw.val hA (fun w hw=>hw.2) (fun v D hv=>?_);subst hv;conv=>whnf)
    | (refine aw.val hF (fun w hw=>hw.1.1) (fun v D hv=>?_);obtain⟨q,rfl,hq⟩:=hv;conv=>whnf)
    | (refine ar.aj (ak.aU ae rfl rfl (ad:=⟨br,0,none⟩) (k:=0) (L:=E) (m:=E) (aG.row (by simp[Fx.and])) rfl (by rw[List.drop_zero];exact List.take_of_length_le (by rw[hEl];exact Nat.le_refl _)) hEl ?_);conv=>whnf)
    | (refine an.mk ?_ ?_;(focus (first | exact ao.refl _ | exact ao.left _ _ | exact ao.of_le ⟨List.sublist_append_left _ _,fun w h=>h⟩ | exact ao.of_le ⟨List.Sublist.refl _,fun w h=>h.1⟩));conv=>whnf))
   cases q
   · repeat' (first
      | (refine And.intro ?_ ?_<;>conv=>whnf)
      | (refine an.same rfl ?_;conv=>whnf)
      | (refine an.row rfl ?_;conv=>whnf)
      | (refine an.call rfl ?_;conv=>whnf)
      | (refine aS.of ?_;conv=>whnf)
      | (refine aa.of ?_;conv=>whnf)
      | (refine aw.val hA (fun w hw=>hw.2) (fun v D hv=>?_);subst hv;conv=>whnf)
      | (refine an.mk ?_ ?_;(focus (first | exact ao.refl _ | exact ao.left _ _ | exact ao.of_le ⟨List.sublist_append_left _ _,fun w h=>h⟩ | exact ao.of_le ⟨List.Sublist.refl _,fun w h=>h.1⟩));conv=>whnf))
     exact⟨_,ao.refl _,rfl⟩
   obtain⟨hq1,hq2⟩:=hq rfl
   have hok:=ho.ok hq1
   have hsm:=ho.small hq1 hq2 hfl
   have hTo:=tn s hok hsm
   rw[hE] at hTo
   conv=>whnf
   repeat (refine aa.of ?_;conv=>whnf)
   repeat' (first
    | (refine And.intro ?_ ?_<;>conv=>whnf)
    | (refine an.same rfl ?_;conv=>whnf)
    | (refine an.row rfl ?_;conv=>whnf)
    | (refine an.call rfl ?_;conv=>whnf)
    | (refine aS.of ?_;conv=>whnf)
    | (refine aa.of ?_;conv=>whnf)
    | (refine ar.aj (ak.aU ae rfl rfl (ad:=⟨br,0,none⟩) (k:=0) (L:=E) (m:=E) (aG.row (by simp[Fx.and])) rfl (by rw[List.drop_zero];exact List.take_of_length_le (by rw[hEl];exact Nat.le_refl _)) hEl ?_);conv=>whnf)
    | (refine aw.pure hTo (fun w hw=>hw.1) (fun v F hv=>?_);obtain⟨pr,cp,gr,ti,sp,wi,fh,al,pe,nw,rfl,hok',rfl⟩:=hv;conv=>whnf)
    | (refine aw.val (fZ _ _ (gR _) hok') (fun w hw=>⟨hw.2.1,hw.1.2⟩) (fun v F hv=>?_);rw[s4] at hv;subst hv;conv=>whnf)
    | (refine an.mk ?_ ?_;(focus (first | exact ao.refl _ | exact ao.left _ _ | exact ao.of_le ⟨List.sublist_append_left _ _,fun w h=>h⟩ | exact ao.of_le ⟨List.Sublist.refl _,fun w h=>h.1⟩));conv=>whnf))
   obtain⟨d,hdc⟩ : ∃ d,decide (fE s=0)=d:=⟨_,rfl⟩
   rw[hdc]
   cases d
   · conv=>whnf
     repeat (refine aa.of ?_;conv=>whnf)
     exact⟨_,ao.refl _,rfl⟩
   have h0:fE s=0:=of_decide_eq_true hdc
   conv=>whnf
   repeat (refine aa.of ?_;conv=>whnf)
   refine ar.aj (ak.aE ae rfl rfl (ad:=⟨br,0,none⟩) (k:=307) (L:=E) (v:=s.wi.h.v s.wi.l.length) (aG.row (by simp[Fx.and])) (fun _=>rfl) gW ?_)
   conv=>whnf
   repeat (refine aa.of ?_;conv=>whnf)
   rcases Nat.eq_zero_or_pos s.wi.l.length with hw0 | hw0
   · rw[show bJ (s.wi.l.length:Int) 0=true by simp[aO,hw0]]
     conv=>whnf
     repeat (refine aa.of ?_;conv=>whnf)
     exact⟨_,ao.refl _,rfl⟩
   rw[show bJ (s.wi.l.length:Int) 0=false by rw[aO,beq_eq_false_iff_ne];omega]
   have hWf:(s.wi.l.flatMap bc)[0*4+3]? = some (.bool s.wi.l[0]!.w):=by
    rw[eY (cf:=bc) (z:=4) (fun _=>rfl) hw0 (by decide),cm hw0]
    rfl
   have hwl:=hok.wi.le
   obtain⟨ww,hww⟩ : ∃ ww,s.wi.l[0]!.w=ww:=⟨_,rfl⟩
   rw[hww] at hWf
   conv=>whnf
   repeat (refine aa.of ?_;conv=>whnf)
   repeat' (first
    | (refine And.intro ?_ ?_<;>conv=>whnf)
    | (refine an.same rfl ?_;conv=>whnf)
    | (refine an.row rfl ?_;conv=>whnf)
    | (refine an.call rfl ?_;conv=>whnf)
    | (refine aS.of ?_;conv=>whnf)
    | (refine aa.of ?_;conv=>whnf)
    | (refine ar.aj (ak.aE ae rfl rfl (ad:=⟨br,0,none⟩) (k:=307) (L:=E) (v:=s.wi.h.v s.wi.l.length) (aG.row (by simp[Fx.and])) (fun _=>rfl) gW ?_);conv=>whnf)
    | (refine ar.aj (ak.index ae (t:=47) rfl rfl rfl (by omega) (by omega) hok.wi.h.nil fun ad2 had2=>?_);conv=>whnf)
    | (refine ar.aj (ak.aE ae rfl rfl (ad:=ad2) (k:=0*4+3) (L:=s.wi.l.flatMap bc) (v:=.bool ww) (.fact fun w hw=>had2 ▸ hw.1.1.1.wi) (fun hs=>by rw[Addr.cV hs];rfl) hWf ?_);conv=>whnf)
    | (refine an.mk ?_ ?_;(focus (first | exact ao.refl _ | exact ao.left _ _ | exact ao.of_le ⟨List.sublist_append_left _ _,fun w h=>h⟩ | exact ao.of_le ⟨List.Sublist.refl _,fun w h=>h.1⟩));conv=>whnf))
   cases ww
   · conv=>whnf
     repeat (refine aa.of ?_;conv=>whnf)
     exact⟨_,ao.refl _,rfl⟩
   conv=>whnf
   repeat (refine aa.of ?_;conv=>whnf)
   refine⟨br,⟨⟨⟨hq1,hq2⟩,h0⟩,hw0,hww⟩,[],⟨by decide,by simp,rfl⟩,?_,ao.of_le ⟨by simp[Fx.and],fun w hw=>hw.1⟩⟩
   repeat (first | exact ax.nil | refine ax.any ?_ | refine ax.cons ?_ | refine ax.eq (congrArg (fun z=>SV.v (Value.int .i64 z)) hcA) ?_)
 · intro br hx bs' hbs'
   obtain⟨⟨⟨hq1,hq2⟩,h0⟩,hw0,hww⟩:=hx
   have h2:=tw s hn2
   exact uk s (ho.ok hq1) (ho.small hq1 hq2 hfl) h0 hw0 hww b n hn1 hn2 (by omega) p hp hcB w0 av E hE br bs' hbs'
end Go.Proofs.YtlnhdpjnlffaoaaGreatDoor
