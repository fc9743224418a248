/- Parts of the proof: AeA, AbW, AeB, AeC, AeD. -/
import Derived.Test.YtlnhdpjnlffaoaaGreatDoorQS
import Derived.Test.YtlnhdpjnlffaoaaGreatDoorQP
namespace Go.Proofs.YtlnhdpjnlffaoaaGreatDoor
open Go Go.Sx
set_option maxRecDepth 100000
set_option maxHeartbeats 4000000
set_option linter.unusedVariables false
set_option linter.unusedSimpArgs false
def eO (x:En) (n:Nat):Bool:=bD x.kind 1&&bD x.task (n:Int)
def gj (l:List En) (n:Nat):Nat→Int
 | 0=>-1
 | i+1=>if eO l[i]! n then (i:Int) else gj l n i
theorem mw (l:List En) (n:Nat) : ∀ i,i≤l.length→(gj l n i = -1∧∀ j,j<i→eO l[j]! n=false)∨∃ j,j<i∧gj l n i=(j:Int)∧eO l[j]! n=true∧∀ k,j<k→k<i→eO l[k]! n=false
 | 0,_=>.inl ⟨rfl,fun j h=>absurd h (by omega)⟩
 | i+1,h=>by
  unfold gj
  cases hb:eO l[i]! n with
  | true=>exact .inr ⟨i,by omega,rfl,hb,fun k h1 h2=>absurd h1 (by omega)⟩
  | false=>
   rcases mw l n i (by omega) with⟨h1,h2⟩ | ⟨j,h1,h2,h3,h4⟩
   · refine .inl ⟨by simpa using h1,fun j hj=>?_⟩
     by_cases e:j=i
     · subst e
       exact hb
     · exact h2 j (by omega)
   · refine .inr ⟨j,by omega,by simpa using h2,h3,fun k hk1 hk2=>?_⟩
     by_cases e:k=i
     · subst e
       exact hb
     · exact h4 k hk1 (by omega)
theorem yV {l l':Lf} {x:En} (h:ph l x=some l') (hx:bD x.kind 1=false) (hl:l.ca=false):l'.ca=false:=by
 unfold ph at h
 rw[hx] at h
 repeat' split at h
 all_goals first
  | (cases h;done)
  | (cases h;rfl)
  | (cases h;exact hl)
  | simp_all
theorem my {LL LL':List Lf} {x:En} (h:dp LL x=some LL'):LL'.length=LL.length:=by
 unfold dp at h
 split at h
 · split at h
   · split at h
     · cases h
       simp
     · cases h
   · cases h
 · cases h
   rfl
theorem xF {LL LL':List Lf} {x:En} {n:Nat} (h:dp LL x=some LL') (hn:n<LL.length) (hx:eO x n=false) (hl:LL[n]!.ca=false):LL'[n]!.ca=false:=by
 have hlen:=my h
 unfold dp at h
 split at h
 · split at h
   · rename_i ht
     split at h
     · rename_i l hf
       cases h
       by_cases e:x.task.toNat=n
       · subst e
         have hk:bD x.kind 1=false:=by
          cases hk:bD x.kind 1 with
          | false=>rfl
          | true=>
           unfold eO at hx
           rw[hk,Bool.true_and] at hx
           simp[aM] at hx
           omega
         rw[cv (by simpa using hn),List.getElem_set_self]
         exact yV hf hk hl
       · rw[cv (by simpa using hn),List.getElem_set_ne e,← cv hn]
         exact hl
     · cases h
   · cases h
 · cases h
   exact hl
theorem lT : ∀ {l:List En} {LL LL':List Lf},fM l LL=some LL'→LL'.length=LL.length
 | [],_,_,h=>by cases h;rfl
 | x::r,LL,LL',h=>by
  unfold fM at h
  split at h
  · cases h
  · rename_i L1 h1
    rw[lT h,my h1]
theorem ou {n:Nat} : ∀ {l:List En} {LL LL':List Lf},fM l LL=some LL'→n<LL.length→(∀ x∈l,eO x n=false)→LL[n]!.ca=false→LL'[n]!.ca=false
 | [],_,_,h,_,_,hl=>by cases h;exact hl
 | x::r,LL,LL',h,hn,hx,hl=>by
  unfold fM at h
  split at h
  · cases h
  · rename_i L1 h1
    exact ou h (by rw[my h1];exact hn) (fun y hy=>hx y (List.mem_cons_of_mem _ hy)) (xF h1 hn (hx x List.mem_cons_self) hl)
theorem gM : ∀ (l r:List En) (LL:List Lf),fM (l++r) LL=(fM l LL).bind (fM r)
 | [],_,_=>rfl
 | x::l,r,LL=>by
  rw[List.cons_append]
  unfold fM
  cases dp LL x with
  | none=>rfl
  | some L1=>exact gM l r L1
theorem vD {LL LL':List Lf} {x:En} {n:Nat} (h:dp LL x=some LL') (hx:eO x n=true):LL[n]!.ca=false:=by
 unfold eO at hx
 rw[Bool.and_eq_true] at hx
 obtain⟨hk,ht⟩:=hx
 have hk':x.kind=1:=by simpa [aM] using hk
 have ht':x.task=(n:Int):=by simpa [aM] using ht
 unfold dp at h
 rw[if_pos ((n_ _).2 (.inl hk'))] at h
 split at h
 · split at h
   · rename_i l hf
     rw[ht',Int.toNat_natCast] at hf
     unfold ph at hf
     rw[hk'] at hf
     cases hc:LL[n]!.ca with
     | false=>rfl
     | true=>
      rw[hc] at hf
      simp[aM,aO] at hf
   · cases h
 · cases h
def om (l:List En) (j:Nat):List En:=l.take j++l.drop (j+1)
theorem u9 (s:bQ) (h:mS s=true) {n:Nat} (h1:16≤n) (h2:n<32) (hc:bD (s.T n).st 1=true) :
 ∃ j,j<s.rc.l.length∧gj s.rc.l n s.rc.l.length=(j:Int)∧∀ rc:Sl En,rc.l=om s.rc.l j→mS { s with rc:=rc }=false:=by
 unfold mS at h
 split at h
 · cases h
 · rename_i LL hLL
   have hlen:LL.length=32:=by rw[lT hLL];rfl
   have hca : ∀ {L:List Lf},(allI 16 fun k=>fk s.T L[16+k]! (16+k))=true→L[n]!.ca=true:=fun {L} h=>by
    have hl:=u3.1 h (n - 16) (by omega)
    rw[show 16+(n - 16)=n by omega] at hl
    unfold fk at hl
    rw[hc] at hl
    cases hx:L[n]!.ca with
    | true=>rfl
    | false=>
     rw[hx] at hl
     simp at hl
   have hn:=hca h
   have h0:(yh)[n]!.ca=false:=by
    have : ∀ k,k<16→(yh)[16+k]!.ca=false:=by decide
    have:=this (n - 16) (by omega)
    rwa [show 16+(n - 16)=n by omega] at this
   rcases mw s.rc.l n _ (Nat.le_refl _) with⟨_,hno⟩ | ⟨j,hj,hjl,hjb,hja⟩
   · have:=ou hLL (show n<32 from h2) (fun x hx=>by
      obtain⟨k,hk,rfl⟩:=List.mem_iff_getElem.1 hx
      have:=hno k hk
      rwa [cv hk] at this) h0
     rw[this] at hn
     cases hn
   · refine⟨j,hj,hjl,fun rc hrc=>?_⟩
     unfold mS
     show(match fM rc.l yh with | none=>false | some LL=>allI 16 fun k=>fk s.T LL[16+k]! (16+k))=false
     rw[hrc]
     unfold om
     rw[gM]
     have hsp:s.rc.l=s.rc.l.take j++s.rc.l[j]::s.rc.l.drop (j+1):=by
      rw[← List.drop_eq_getElem_cons hj,List.take_append_drop]
     rw[hsp,gM] at hLL
     cases hp:fM (s.rc.l.take j) yh with
     | none=>rfl
     | some L1=>
      rw[hp] at hLL
      have hLL':fM (s.rc.l[j]::s.rc.l.drop (j+1)) L1=some LL:=hLL
      unfold fM at hLL'
      split at hLL'
      · cases hLL'
      · rename_i L2 h2'
        have hc1:L1[n]!.ca=false:=vD h2' (by rw[← cv hj];exact hjb)
        show(match fM (s.rc.l.drop (j+1)) L1 with | none=>false | some LL=>allI 16 fun k=>fk s.T LL[16+k]! (16+k))=false
        cases h3:fM (s.rc.l.drop (j+1)) L1 with
        | none=>rfl
        | some L3=>
         have hc3:=ou (n:=n) h3 (by rw[lT hp];exact h2) (fun x hx=>by
          obtain⟨k,hk,rfl⟩:=List.mem_iff_getElem.1 hx
          rw[List.length_drop] at hk
          have:=hja (j+1+k) (by omega) (by omega)
          rw[cv (by omega)] at this
          rw[List.getElem_drop]
          exact this) hc1
         cases hall:(allI 16 fun k=>fk s.T L3[16+k]! (16+k)) with
         | false=>exact hall
         | true=>
          rw[hca hall] at hc3
          cases hc3
theorem r9 (s:bQ) (hok:gp s=0) {n:Nat} (h1:16≤n) (h2:n<32) (hc:bD (s.T n).st 1=true) :
 ∃ j,j<s.rc.l.length∧gj s.rc.l n s.rc.l.length=(j:Int)∧∀ rc:Sl En,rc.l=om s.rc.l j→gp { s with rc:=rc }=13:=by
 have hall:=vO.1 hok
 obtain⟨j,hj,hl,h⟩:=u9 s (hall 13 (by decide) (by decide)) h1 h2 hc
 refine⟨j,hj,hl,fun rc hrc=>wz (by decide) (by decide) (h rc hrc) fun k hk1 hk2=>?_⟩
 have hk:=hall k hk1 (by omega)
 rw[← hk]
 obtain e | e | e | e | e | e | e | e | e | e | e | e:k=1∨k=2∨k=3∨k=4∨k=5∨k=6∨k=7∨k=8∨k=9∨k=10∨k=11∨k=12:=by omega
 all_goals subst e;rfl
theorem bQ.qd.ok {s:bQ} (h:s.qd) (hf:fV s 32≤3000):s.Ok:=
 ⟨h,by have:=sP s;unfold qZ at this;omega,fun i hi=>by have:=w8 s hi;omega⟩
theorem bQ.qd.small {s:bQ} (h:s.qd) (hf:fV s 32≤3000) (hp:s.pe.l.length≤40) (hl:s.lk.fly.length≤4398046511104):s.Small:=by
 have:=sP s
 unfold qZ at this
 exact⟨by omega,by omega,by omega,by omega,by omega,hl,by omega,by omega,by omega⟩
theorem sX (s:bQ) (pr cp gr ti:Hd) (sp:Nat→Hd) (wi fh al pe nw:Hd):gp (s.x9 pr cp gr ti sp wi fh al pe nw)=gp s:=by
 unfold bQ.x9
 rfl
theorem wZ {a m c:Nat} (hm:m≤256) (hm0:0<m) (hc:c≤256):IntKind.i64.wrap ((c:Int)+IntKind.i64.wrap ((a:Int).tmod (m:Int)))=((c+a%m:Nat):Int):=by
 have h1:=Nat.mod_lt a hm0
 have e:(a:Int).tmod (m:Int)=((a%m:Nat):Int):=rfl
 have e2:IntKind.i64.wrap ((a%m:Nat):Int)=((a%m:Nat):Int):=wrap_i64 (by omega)
 rw[e,e2,s8 (by omega)]
theorem wm (s:bQ):(dC s)[377]? = some s.rc.v:=by kernel_rfl
theorem yr (s:bQ) (rc:Sl En):laid (dC s) 377 [rc.v]=dC { s with rc:=rc }:=by kernel_rfl
theorem bQ.Ok.uX {s:bQ} (h:s.Ok) {rc:Sl En} (hr:rc.Ok):({ s with rc:=rc }:bQ).Ok:=
 ⟨⟨h.q,h.pr,h.cp,h.gr,h.ti,h.qu,h.pg,h.sp,h.wi,h.bk,h.fh,h.fl,h.wh,h.wl,h.al,h.pe,hr,h.ac,h.nw⟩,h.gl,h.sl⟩
theorem bQ.Small.uX {s:bQ} (h:s.Small) (rc:Sl En):({ s with rc:=rc }:bQ).Small:=
 ⟨h.pr,h.cp,h.gr,h.ti,h.wi,h.fl,h.al,h.pe,h.nw⟩
theorem bQ.Rows.uX {s:bQ} {w:World} (h:s.Rows w) {rc:Sl En} (hr:rc.At gn w):({ s with rc:=rc }:bQ).Rows w:=
 ⟨h.q,h.pr,h.cp,h.gr,h.ti,h.qu,h.pg,h.sp,h.wi,h.bk,h.fl,h.wt,h.al,h.pe,hr,h.ac⟩
noncomputable def fX:Code:=Tryz.f6.body.getD .skip
def qt (br:Nat) (n last:Int):List SV:=[.any,.any,.v (.pointer (some ⟨br,0,none⟩)),.any,.any,.v (.int .i64 n),.any,.any,.v (.int .i64 last)]++List.replicate 85 .any
noncomputable def jC:Exit→KT:=jP aT Tryz.f6.results.toList (dq (fun v F=>v = .bool true))
theorem wS (s:bQ) (hok:s.Ok) (n:Nat) (w0:World) (av:Nat→Prop) (E:List Value) (g:E[377]? = some s.rc.v) (br:Nat)
 (ht : ∀ bs:List (Nat×Nat),bs.length=0→az Tryz.prog w0 (fun _ _=>False) av (cw 6 fX) (qt br (n:Int) (gj s.rc.l n s.rc.l.length)) bs [] ⟨fun w=>(s.Rows w∧s.nw.At aQ w)∧bu w,[(br,Row.c E)]⟩ jC) :
 az Tryz.prog w0 (fun _ _=>False) av (cw 5 fX) (qt br (n:Int) (-1)) [] [] ⟨fun w=>(s.Rows w∧s.nw.At aQ w)∧bu w,[(br,Row.c E)]⟩ jC:=by
 obtain⟨l,hrl⟩ : ∃ l,s.rc.l=l:=⟨_,rfl⟩
 have hrv:s.rc.v=s.rc.h.v l.length:=by rw[← hrl];rfl
 have hrh:=hok.rc.h
 have hrle:=hok.rc.le
 rw[hrl] at hrh hrle ht
 rw[hrv] at g
 have hrow : ∀ w,((s.Rows w∧s.nw.At aQ w)∧bu w)→af w s.rc.h.a (l.flatMap gn):=fun w hw=>by
  have:=hw.1.1.rc
  unfold Sl.At at this
  rwa [hrl] at this
 refine az.bR ae 1 (ι:=Unit) (fun _=>True) (fun _=>qt br (n:Int) (gj l n l.length)) (fun _=>[]) (fun _=>⟨fun w=>(s.Rows w∧s.nw.At aQ w)∧bu w,[(br,Row.c E)]⟩) ?_ ?_
 · conv=>whnf
   repeat (refine aa.of ?_;conv=>whnf)
   refine ar.aj (ak.aF ae rfl rfl (ad:=⟨br,0,none⟩) (k:=377) (L:=E) (v:=s.rc.h.v l.length) (aG.row (by simp)) (fun _=>rfl) g ?_)
   conv=>whnf
   repeat (refine aa.of ?_;conv=>whnf)
   refine az.loop ae (ι:=Nat) ([8,9]++List.range' 44 22) (fun i=>i≤l.length)
    (fun i=>[(8,.v (.int .i64 (gj l n i))),(44,.v (.int .i64 (i:Int)))]) (fun _=>[]) (fun _=>⟨fun w=>(s.Rows w∧s.nw.At aQ w)∧bu w,[(br,Row.c E)]⟩)
    (fun i=>l.length - i) 0 (Nat.zero_le _) ?_ rfl (ao.refl _) fun i hi=>?_
   · conv=>whnf
     repeat (first | exact ax.nil | refine ax.any ?_ | refine ax.cons ?_)
   dsimp only at hi ⊢
   conv=>whnf
   repeat (refine aa.of ?_;conv=>whnf)
   refine bU.split (fun hlt=>?_) (fun hlt=>?_)
   · have hlt':i<l.length:=by
      simp only[au,decide_eq_true_eq] at hlt
      omega
     obtain⟨x,hx⟩ : ∃ x,l[i]=x:=⟨_,rfl⟩
     have hlb:gj l n (i+1)=if eO x n then (i:Int) else gj l n i:=by rw[← hx,← cv hlt'];rfl
     obtain⟨lb,hlbe⟩ : ∃ lb,gj l n i=lb:=⟨_,rfl⟩
     rw[hlbe] at hlb ⊢
     conv=>whnf
     repeat (refine aa.of ?_;conv=>whnf)
     repeat' (first
      | (refine And.intro ?_ ?_<;>conv=>whnf)
      | (refine an.same rfl ?_;conv=>whnf)
      | (refine an.row rfl ?_;conv=>whnf)
      | (refine an.call rfl ?_;conv=>whnf)
      | (refine aS.of ?_;conv=>whnf)
      | (refine aa.of ?_;conv=>whnf)
      | (refine ar.aj (ak.aF ae rfl rfl (ad:=⟨br,0,none⟩) (k:=377) (L:=E) (v:=s.rc.h.v l.length) (aG.row (by simp)) (fun _=>rfl) g ?_);conv=>whnf)
      | (refine ar.aj (ak.index ae (t:=70) rfl rfl rfl (by omega) (by omega) hrh.nil fun ad had=>?_);conv=>whnf)
      | (refine ar.aj (ak.aF ae rfl rfl (ad:=ad) (k:=i*8+0) (L:=l.flatMap gn) (v:=.int .i64 x.kind) (.fact fun w hw=>had ▸ hrow w hw) (fun hs=>by rw[Addr.cU hs];rfl) (by rw[← hx];exact fe (cf:=gn) (z:=8) (fun _=>rfl) hlt' (by decide)) ?_);conv=>whnf)
      | (refine ar.aj (ak.aF ae rfl rfl (ad:=ad) (k:=i*8+1) (L:=l.flatMap gn) (v:=.int .i64 x.task) (.fact fun w hw=>had ▸ hrow w hw) (fun hs=>by rw[Addr.cU hs];rfl) (by rw[← hx];exact fe (cf:=gn) (z:=8) (fun _=>rfl) hlt' (by decide)) ?_);conv=>whnf)
      | (split<;>conv=>whnf)
      | (refine bU.split (fun h=>?_) (fun h=>?_)<;>conv=>whnf)
      | (refine an.mk ?_ ?_;(focus (first | exact ao.refl _ | exact ao.left _ _ | exact ao.of_le ⟨List.sublist_append_left _ _,fun w h=>h⟩ | exact ao.of_le ⟨List.Sublist.refl _,fun w h=>h.1⟩));conv=>whnf))
     all_goals clear ht
     all_goals
      first
      | (
       have hb:eO x n=true:=by
        unfold eO
        simp_all
       rw[hb,if_pos rfl] at hlb)
      | (
       have hb:eO x n=false:=by
        unfold eO
        simp_all
       rw[hb,if_neg (by decide)] at hlb)
     all_goals
      refine⟨i+1,⟨hlt',by dsimp only;omega⟩,?_,?_,ao.refl _⟩
      · conv=>whnf
        refine⟨?_,rfl⟩
        repeat (first | exact ax.nil | refine ax.any ?_ | refine ax.cons ?_ | exact ax.eq (congrArg (fun z=>SV.v (Value.int .i64 z)) hlb.symm) ?_ | refine ax.eq (congrArg (fun z=>SV.v (Value.int .i64 z)) hlb.symm) ?_ | refine ax.eq (by rw[wrap_i64 (by omega)];rfl) ?_)
      · conv=>whnf
        exact trivial
   · have hie:i=l.length:=by
      simp only[au,decide_eq_false_iff_not] at hlt
      omega
     subst hie
     conv=>whnf
     repeat (refine aa.of ?_;conv=>whnf)
     refine⟨(),trivial,[],⟨by decide,by simp,rfl⟩,?_,ao.refl _⟩
     repeat (first | exact ax.nil | refine ax.any ?_ | refine ax.cons ?_)
 · intro _ _ bs' hbs'
   rw[aP]
   exact ht bs' hbs'
theorem wU {α:Type} {cf:α→List Value} {z:Nat} (hz : ∀ x,(cf x).length=z) {l:List α} {i:Nat} (hi:i≤l.length):(l.flatMap cf).drop (i*z)=(l.drop i).flatMap cf:=by
 have h:l.flatMap cf=(l.take i).flatMap cf++(l.drop i).flatMap cf:=by rw[← List.flatMap_append,List.take_append_drop]
 have hl:((l.take i).flatMap cf).length=i*z:=by rw[ed hz,List.length_take,Nat.min_eq_left hi]
 rw[h,← hl,List.drop_left]
theorem tp (x:En) : ∀ v∈gn x,aU v=true:=List.all_eq_true.1 (by rfl)
theorem vr {l:List En} {j:Nat} (h:j<l.length):(om l j).length=j+(l.length - (j+1)):=by
 unfold om
 rw[List.length_append,List.length_take,List.length_drop]
 omega
def rQ (b7:Nat):List SV:=List.replicate 10 .any ++ [.v (.pointer (some ⟨b7,0,none⟩))]++List.replicate 83 .any
theorem xC (s:bQ) (hok:s.Ok) (hsm:s.Small) (rc:Sl En) (hrc:rc.Ok) (hch:gp { s with rc:=rc }=13) (w0:World) (av:Nat→Prop) (b7:Nat) (bs:List (Nat×Nat)) (hbs:bs.length=0) (E2:List Value) (hE2:dC { s with rc:=rc }=E2) :
 az Tryz.prog w0 (fun _ _=>False) av (cw 9 fX) (rQ b7) bs [] ⟨fun w=>((s.Rows w∧s.nw.At aQ w)∧bu w)∧rc.At gn w,[(b7,Row.c E2)]⟩ jC:=by
 obtain rfl:=List.eq_nil_of_length_eq_zero hbs
 have hTo:=s_ { s with rc:=rc } (hok.uX hrc) (hsm.uX rc)
 have hEl:E2.length=380:=by rw[← hE2];exact fw _
 rw[hE2] at hTo
 refine az.aK ae ?_
 conv=>whnf
 repeat (refine aa.of ?_;conv=>whnf)
 repeat' (first
  | (refine And.intro ?_ ?_<;>conv=>whnf)
  | (refine an.same rfl ?_;conv=>whnf)
  | (refine an.row rfl ?_;conv=>whnf)
  | (refine an.call rfl ?_;conv=>whnf)
  | (refine aS.of ?_;conv=>whnf)
  | (refine aa.of ?_;conv=>whnf)
  | (refine ar.aj (ak.aW ae rfl rfl (ad:=⟨b7,0,none⟩) (k:=0) (L:=E2) (m:=E2) (aG.row (by simp)) rfl (by rw[List.drop_zero];exact List.take_of_length_le (by rw[hEl];exact Nat.le_refl _)) hEl ?_);conv=>whnf)
  | (refine aw.pure hTo (fun w hw=>⟨hw.1.1.1.uX hw.2,hw.1.1.2⟩) (fun v F hv=>?_);obtain⟨pr,cp,gr,ti,sp,wi,fh,al,pe,nw,rfl,hok',rfl⟩:=hv;conv=>whnf)
  | (refine aw.val (fW _ _ (lx _) hok') (fun w hw=>⟨hw.2.1,hw.1.1.2⟩) (fun v F hv=>?_);rw[sX,hch] at hv;subst hv;conv=>whnf)
  | (refine an.mk ?_ ?_;(focus (first | exact ao.refl _ | exact ao.left _ _ | exact ao.of_le ⟨List.sublist_append_left _ _,fun w h=>h⟩ | exact ao.of_le ⟨List.Sublist.refl _,fun w h=>h.1⟩));conv=>whnf))
 exact⟨_,ao.refl _,congrArg Value.bool (by simp[aM])⟩
theorem vU (s:bQ) (hok:s.Ok) (hsm:s.Small) (n j:Nat) (hj:j<s.rc.l.length) (hl3:s.rc.l.length≤3000) (hch : ∀ rc:Sl En,rc.l=om s.rc.l j→gp { s with rc:=rc }=13) (w0:World) (av:Nat→Prop) (E:List Value) (hE:dC s=E) (br:Nat) (bs:List (Nat×Nat)) (hbs:bs.length=0) :
 az Tryz.prog w0 (fun _ _=>False) av (cw 6 fX) (qt br (n:Int) (j:Int)) bs [] ⟨fun w=>(s.Rows w∧s.nw.At aQ w)∧bu w,[(br,Row.c E)]⟩ jC:=by
 obtain rfl:=List.eq_nil_of_length_eq_zero hbs
 have g:=wm s
 have hp:=yr s
 have hEl:(dC s).length=380:=fw s
 have hE1 : ∀ v∈dC s,aU v=true:=u5 s
 rw[hE] at g hp hEl hE1
 obtain⟨l,hrl⟩ : ∃ l,s.rc.l=l:=⟨_,rfl⟩
 have hrv:s.rc.v=s.rc.h.v l.length:=by rw[← hrl];rfl
 have hrh:=hok.rc.h
 rw[hrl] at hrh hj hl3 hch
 rw[hrv] at g
 have hrow : ∀ w,((s.Rows w∧s.nw.At aQ w)∧bu w)→af w s.rc.h.a (l.flatMap gn):=fun w hw=>by
  have:=hw.1.1.rc
  unfold Sl.At at this
  rwa [hrl] at this
 have hM1:((l.flatMap gn).drop (0*8)).take ((j - 0)*8)=(l.take j).flatMap gn:=by
  rw[Nat.zero_mul,List.drop_zero,Nat.sub_zero]
  exact ia (cf:=gn) (z:=8) (fun _=>rfl) l j
 have hM2:((l.flatMap gn).drop ((j+1)*8)).take ((l.length - (j+1))*8)=(l.drop (j+1)).flatMap gn:=by
  rw[wU (cf:=gn) (z:=8) (fun _=>rfl) (Nat.succ_le_of_lt hj)]
  exact List.take_of_length_le (by rw[ed (z:=8) (fun _=>rfl),List.length_drop];exact Nat.le_refl _)
 have hw1:IntKind.i64.wrap ((j:Int)+1)=((j+1:Nat):Int):=by rw[wrap_i64 (by omega)];omega
 obtain⟨Z,hZ⟩ : ∃ Z,dC jl=Z:=⟨_,rfl⟩
 have hZl:Z.length=380:=by rw[← hZ];exact fw _
 have hfin : ∀ rc:Sl En,rc.l=om l j→rc.Ok→∀ (b7:Nat) (bs:List (Nat×Nat)),bs.length=0→az Tryz.prog w0 (fun _ _=>False) av (cw 9 fX) (rQ b7) bs [] ⟨fun w=>((s.Rows w∧s.nw.At aQ w)∧bu w)∧rc.At gn w,[(b7,Row.c (dC { s with rc:=rc }))]⟩ jC:=
  fun rc hrl2 hrc b7 bs hbs=>xC s hok hsm rc hrc (hch rc hrl2) w0 av b7 bs hbs _ rfl
 have hcl:=vr hj
 obtain⟨cl,hcle⟩ : ∃ cl,om l j=cl:=⟨_,rfl⟩
 have hcc:(l.take j).flatMap gn++(l.drop (j+1)).flatMap gn=cl.flatMap gn:=by
  rw[← hcle]
  unfold om
  rw[List.flatMap_append]
 rw[hcle] at hfin hcl
 have hfp : ∀ (a:Option Addr) (c:Nat) (C:List Value),Sx.cB 8 (j+(l.length - (j+1))) a c C (cl.flatMap gn)→(⟨⟨a,c⟩,cl⟩:Sl En).Ok:=fun a c C hO=>
  ⟨⟨fun h=>by rw[hcl];exact hO.cc h,by rw[hcl];exact hO.fit⟩,by rw[hcl];omega⟩
 clear hch
 have hE2 : ∀ rc:Sl En,(dC { s with rc:=rc }).length=380:=fun rc=>fw _
 obtain⟨E2,hE2e⟩ : ∃ E2:Sl En→List Value,(fun rc=>dC { s with rc:=rc })=E2:=⟨_,rfl⟩
 have hE2c : ∀ rc:Sl En,dC { s with rc:=rc }=E2 rc:=fun rc=>congrFun hE2e rc
 simp only[hE2c] at hfin hp hE2
 refine az.bR ae 3 (ι:=Nat×Sl En) (fun x=>x.2.l=cl∧x.2.Ok) (fun x=>rQ x.1) (fun _=>[]) (fun x=>⟨fun w=>((s.Rows w∧s.nw.At aQ w)∧bu w)∧x.2.At gn w,[(x.1,Row.c (E2 x.2))]⟩) ?_ ?_
 · conv=>whnf
   repeat (refine aa.of ?_;conv=>whnf)
   refine bU.split (fun h=>?_) (fun h=>?_)
   · exfalso
     simp only[au,decide_eq_true_eq] at h
     omega
   conv=>whnf
   repeat (refine aa.of ?_;conv=>whnf)
   refine ar.aj (ak.aW ae rfl rfl (ad:=⟨br,0,none⟩) (k:=0) (L:=E) (m:=E) (aG.row (by simp)) rfl (by rw[List.drop_zero];exact List.take_of_length_le (by rw[hEl];exact Nat.le_refl _)) hEl ?_)
   conv=>whnf
   repeat (refine aa.of ?_;conv=>whnf)
   refine ar.cZ ae rfl (z:=Z) (by rw[← hZ];kernel_rfl) fun b7=>?_
   conv=>whnf
   repeat (refine aa.of ?_;conv=>whnf)
   refine aN.bG (F':=⟨fun w=>(s.Rows w∧s.nw.At aQ w)∧bu w,[(br,Row.c E)] ++ [(b7,Row.c Z)] ++ []⟩) (ao.of_le ⟨by simp[Fx.and],fun w hw=>hw⟩) ?_
   refine aN.a7 ae rfl (b:=b7) (k:=0) (X:=E) rfl (by exact hEl) (by exact hE1) (by rw[hZl];exact Nat.le_refl _) (cE (by rw[hZl];exact hEl)) ?_
   conv=>whnf
   repeat (refine aa.of ?_;conv=>whnf)
   refine az.draw ae mixed rfl rfl ?_
   conv=>whnf
   refine ak.aF ae rfl rfl (ad:=⟨br,0,none⟩) (k:=377) (L:=E) (v:=s.rc.h.v l.length) (aG.row (by simp)) (fun _=>rfl) g ?_
   conv=>whnf
   refine ak.slice ae (t:=70) rfl rfl rfl (k1:=.i64) (k3:=.i64) (lo:=none) (hi:=some _) (mx:=none) 0 j s.rc.h.c rfl rfl rfl (by omega) (by have:=hrh.cap;omega) (Nat.le_refl _) (fun h=>by cases h) ?_
   conv=>whnf
   refine ak.aF ae rfl rfl (ad:=⟨br,0,none⟩) (k:=377) (L:=E) (v:=s.rc.h.v l.length) (aG.row (by simp)) (fun _=>rfl) g ?_
   conv=>whnf
   refine ak.slice ae (t:=70) rfl rfl rfl (k2:=.i64) (k3:=.i64) (lo:=some _) (hi:=none) (mx:=none) (j+1) l.length s.rc.h.c hw1 rfl rfl (by omega) (by have:=hrh.cap;omega) (Nat.le_refl _) (fun h=>by cases h) ?_
   conv=>whnf
   refine ar.build ae (t:=70) rfl rfl rfl [] rfl rfl (by simp) (by decide) fun b9=>?_
   conv=>whnf
   refine an.mk (ao.of_le ⟨List.sublist_append_left _ _,fun w h=>h⟩) ?_
   conv=>whnf
   rcases Nat.eq_zero_or_pos j with hj0 | hj0
   · refine ar.tt ae (t:=70) (xt:=70) rfl rfl rfl rfl rfl (Nat.le_refl _) (by omega) (.fact fun w hw=>by rw[show([]:List Value)=(l.take j).flatMap gn by rw[hj0];rfl];exact hM1 ▸ (hrow w hw).cut ⟨by omega,by have:=hrh.cap;omega⟩) ?_
     conv=>whnf
     refine an.mk (ao.refl _) ?_
     conv=>whnf
     refine ar.bG (F':=⟨fun w=>(s.Rows w∧s.nw.At aQ w)∧bu w,[(br,Row.c E),(b7,Row.c E)]++bf (some ⟨b9,0,none⟩) [] ++ []⟩) (ao.of_le ⟨by simp[bf],fun w hw=>hw⟩) ?_
     refine ar.append ae (t:=70) (xt:=70) rfl rfl rfl rfl rfl rfl (M:=(l.drop (j+1)).flatMap gn) (Sx.cB.full (sz:=8) (n:=0) (L:=[]) rfl) (.fact fun w hw=>hM2 ▸ (hrow w hw).cut ⟨by omega,by have:=hrh.cap;omega⟩) (by rw[ed (z:=8) (fun _=>rfl),List.length_drop]) (vl tp _) (by omega) (by show(2*(0+(l.length - (j+1)))+1000)*80≤2 ^ 48;omega) fun a3 c3 C3 hO3=>?_
     have hO:Sx.cB 8 (j+(l.length - (j+1))) a3 c3 C3 (cl.flatMap gn):=by
      rw[← hcc]
      subst hj0
      exact hO3
     have hn:0+(l.length - (j+1))=cl.length:=by omega
     rw[hn]
     conv=>whnf
     refine aN.bG (F':=⟨fun w=>((s.Rows w∧s.nw.At aQ w)∧bu w)∧af w a3 (cl.flatMap gn),[(br,Row.c E)] ++ [(b7,Row.c E)] ++ []⟩) (ao.trans hO.share (ao.of_le ⟨by simp,fun w hw=>hw⟩)) ?_
     refine aN.a7 ae rfl (b:=b7) (k:=377) (X:=E2 ⟨⟨a3,c3⟩,cl⟩) rfl rfl (List.all_eq_true.1 (by rfl)) (by rw[hEl];decide) (hp ⟨⟨a3,c3⟩,cl⟩) ?_
     conv=>whnf
     repeat (refine aa.of ?_;conv=>whnf)
     refine⟨(b7,⟨⟨a3,c3⟩,cl⟩),⟨rfl,hfp _ _ _ hO⟩,[],⟨by decide,by simp,rfl⟩,?_,ao.of_le ⟨by simp,fun w hw=>hw⟩⟩
     repeat (first | exact ax.nil | refine ax.any ?_ | refine ax.cons ?_)
   · refine ar.g_ ae (t:=70) (xt:=70) rfl rfl rfl rfl rfl rfl (L:=[]) (M:=(l.take j).flatMap gn) (Sx.aG.row (by simp)) rfl (.fact fun w hw=>hM1 ▸ (hrow w hw).cut ⟨by omega,by have:=hrh.cap;omega⟩) (by rw[ed (z:=8) (fun _=>rfl),List.length_take];show _=(j - 0)*8;rw[Nat.min_eq_left (by omega)];rfl) (by omega) (by omega) (by show(2*(0+(j - 0))+1000)*80≤2 ^ 48;omega) fun b2 c2 C2 hO2=>?_
     conv=>whnf
     refine an.mk (ao.of_le ⟨List.sublist_append_left _ _,fun w h=>h⟩) ?_
     conv=>whnf
     refine ar.bG (F':=⟨fun w=>(s.Rows w∧s.nw.At aQ w)∧bu w,[(br,Row.c E),(b7,Row.c E)]++bf (some ⟨b2,0,none⟩) C2 ++ []⟩) (ao.of_le ⟨by simp[bf],fun w hw=>hw⟩) ?_
     refine ar.append ae (t:=70) (xt:=70) rfl rfl rfl rfl rfl rfl (M:=(l.drop (j+1)).flatMap gn) hO2 (.fact fun w hw=>hM2 ▸ (hrow w hw).cut ⟨by omega,by have:=hrh.cap;omega⟩) (by rw[ed (z:=8) (fun _=>rfl),List.length_drop]) (vl tp _) (by omega) (by show(2*(0+(j - 0)+(l.length - (j+1)))+1000)*80≤2 ^ 48;omega) fun a3 c3 C3 hO3=>?_
     have hO:Sx.cB 8 (j+(l.length - (j+1))) a3 c3 C3 (cl.flatMap gn):=by
      rw[← hcc]
      rw[Nat.zero_add,Nat.sub_zero,List.nil_append] at hO3
      exact hO3
     have hn:0+(j - 0)+(l.length - (j+1))=cl.length:=by omega
     rw[hn]
     conv=>whnf
     refine aN.bG (F':=⟨fun w=>((s.Rows w∧s.nw.At aQ w)∧bu w)∧af w a3 (cl.flatMap gn),[(br,Row.c E)] ++ [(b7,Row.c E)] ++ []⟩) (ao.trans hO.share (ao.of_le ⟨by simp,fun w hw=>hw⟩)) ?_
     refine aN.a7 ae rfl (b:=b7) (k:=377) (X:=E2 ⟨⟨a3,c3⟩,cl⟩) rfl rfl (List.all_eq_true.1 (by rfl)) (by rw[hEl];decide) (hp ⟨⟨a3,c3⟩,cl⟩) ?_
     conv=>whnf
     repeat (refine aa.of ?_;conv=>whnf)
     refine⟨(b7,⟨⟨a3,c3⟩,cl⟩),⟨rfl,hfp _ _ _ hO⟩,[],⟨by decide,by simp,rfl⟩,?_,ao.of_le ⟨by simp,fun w hw=>hw⟩⟩
     repeat (first | exact ax.nil | refine ax.any ?_ | refine ax.cons ?_)
 · intro x hx bs' hbs'
   rw[aP]
   exact hfin x.2 hx.1 hx.2 x.1 bs' hbs'
theorem sR (hA:ah Tryz.prog 7 [] bu (fun v F=>v = .bool true)) (s:bQ) (ho:s.qd) (hd : ∀ i,i<32→(s.T i).data.n≤140737488355328) (hfl:s.lk.fly.length≤4398046511104) (a:Nat) :
 ah Tryz.prog 6 [.agg ⟨dC s⟩,.int .u8 a] (fun w=>(s.Rows w∧s.nw.At aQ w)∧bu w) (fun v F=>v = .bool true):=by
 have hF:=u6 s ho hd
 have hEl:(dC s).length=380:=fw s
 have hn:=Nat.mod_lt a (show 0<16 by decide)
 have gT:(dC s)[(16+a%16)*8+1]? = some (.int .i64 (s.T (16+a%16)).st):=cellOf (vI s (16+a%16) (by omega)) (j:=1) (by decide) rfl
 have g377:=wm s
 obtain⟨E,hE⟩ : ∃ E,dC s=E:=⟨_,rfl⟩
 rw[hE] at hEl hF gT g377
 rw[hE]
 have hcA:IntKind.i64.wrap (16+IntKind.i64.wrap ((a:Int).tmod 16))=((16+a%16:Nat):Int):=wZ (m:=16) (c:=16) (by decide) (by decide) (by decide)
 obtain⟨n,hne⟩ : ∃ n,16+a%16=n:=⟨_,rfl⟩
 rw[hne] at hcA gT
 have hn1:16≤n:=by omega
 have hn2:n<32:=by omega
 clear hn hne
 obtain⟨st,hst⟩ : ∃ st,(s.T n).st=st:=⟨_,rfl⟩
 rw[hst] at gT
 refine ah.fS ae Tryz.func6 (c:=fX) rfl (by decide) (n:=Tryz.f6.ntmps - 2) rfl fun w0 av=>?_
 show az Tryz.prog w0 (fun _ _=>False) av fX _ [] [] _ jC
 refine az.bR ae 5 (ι:=Nat) (fun x=>((fV s 32≤3000∧s.pe.l.length≤40)∧gp s=0)∧bD st 1=true) (fun x=>qt x (n:Int) (-1)) (fun _=>[])
  (fun x=>⟨fun w=>(s.Rows w∧s.nw.At aQ w)∧bu w,[(x,Row.c E)]⟩) ?_ ?_
 · conv=>whnf
   repeat (refine aa.of ?_;conv=>whnf)
   refine ar.cA fun br=>?_
   conv=>whnf
   repeat (refine aa.of ?_;conv=>whnf)
   repeat' (first
    | (refine And.intro ?_ ?_<;>conv=>whnf)
    | (refine an.same rfl ?_;conv=>whnf)
    | (refine an.row rfl ?_;conv=>whnf)
    | (refine an.call rfl ?_;conv=>whnf)
    | (refine aS.of ?_;conv=>whnf)
    | (refine aa.of ?_;conv=>whnf)
    | (refine aw.val hA (fun w hw=>hw.2) (fun v D hv=>?_);subst hv;conv=>whnf)
    | (refine aw.val hF (fun w hw=>hw.1.1) (fun v D hv=>?_);obtain⟨q,rfl,hq⟩:=hv;conv=>whnf)
    | (refine ar.aj (ak.aW ae rfl rfl (ad:=⟨br,0,none⟩) (k:=0) (L:=E) (m:=E) (aG.row (by simp[Fx.and])) rfl (by rw[List.drop_zero];exact List.take_of_length_le (by rw[hEl];exact Nat.le_refl _)) hEl ?_);conv=>whnf)
    | (refine an.mk ?_ ?_;(focus (first | exact ao.refl _ | exact ao.left _ _ | exact ao.of_le ⟨List.sublist_append_left _ _,fun w h=>h⟩ | exact ao.of_le ⟨List.Sublist.refl _,fun w h=>h.1⟩));conv=>whnf))
   cases q
   · repeat' (first
      | (refine And.intro ?_ ?_<;>conv=>whnf)
      | (refine an.same rfl ?_;conv=>whnf)
      | (refine an.row rfl ?_;conv=>whnf)
      | (refine an.call rfl ?_;conv=>whnf)
      | (refine aS.of ?_;conv=>whnf)
      | (refine aa.of ?_;conv=>whnf)
      | (refine aw.val hA (fun w hw=>hw.2) (fun v D hv=>?_);subst hv;conv=>whnf)
      | (refine an.mk ?_ ?_;(focus (first | exact ao.refl _ | exact ao.left _ _ | exact ao.of_le ⟨List.sublist_append_left _ _,fun w h=>h⟩ | exact ao.of_le ⟨List.Sublist.refl _,fun w h=>h.1⟩));conv=>whnf))
     exact⟨_,ao.refl _,rfl⟩
   obtain⟨hq1,hq2⟩:=hq rfl
   have hok:=ho.ok hq1
   have hsm:=ho.small hq1 hq2 hfl
   have hTo:=s_ s hok hsm
   rw[hE] at hTo
   conv=>whnf
   repeat (refine aa.of ?_;conv=>whnf)
   repeat' (first
    | (refine And.intro ?_ ?_<;>conv=>whnf)
    | (refine an.same rfl ?_;conv=>whnf)
    | (refine an.row rfl ?_;conv=>whnf)
    | (refine an.call rfl ?_;conv=>whnf)
    | (refine aS.of ?_;conv=>whnf)
    | (refine aa.of ?_;conv=>whnf)
    | (refine ar.aj (ak.aW ae rfl rfl (ad:=⟨br,0,none⟩) (k:=0) (L:=E) (m:=E) (aG.row (by simp[Fx.and])) rfl (by rw[List.drop_zero];exact List.take_of_length_le (by rw[hEl];exact Nat.le_refl _)) hEl ?_);conv=>whnf)
    | (refine aw.pure hTo (fun w hw=>hw.1) (fun v F hv=>?_);obtain⟨pr,cp,gr,ti,sp,wi,fh,al,pe,nw,rfl,hok',rfl⟩:=hv;conv=>whnf)
    | (refine aw.val (fW _ _ (lx _) hok') (fun w hw=>⟨hw.2.1,hw.1.2⟩) (fun v F hv=>?_);rw[sX] at hv;subst hv;conv=>whnf)
    | (refine an.mk ?_ ?_;(focus (first | exact ao.refl _ | exact ao.left _ _ | exact ao.of_le ⟨List.sublist_append_left _ _,fun w h=>h⟩ | exact ao.of_le ⟨List.Sublist.refl _,fun w h=>h.1⟩));conv=>whnf))
   obtain⟨d,hdc⟩ : ∃ d,decide (gp s=0)=d:=⟨_,rfl⟩
   rw[hdc]
   cases d
   · conv=>whnf
     repeat (refine aa.of ?_;conv=>whnf)
     exact⟨_,ao.refl _,rfl⟩
   have h0:gp s=0:=of_decide_eq_true hdc
   conv=>whnf
   repeat (refine aa.of ?_;conv=>whnf)
   repeat' (first
    | (refine And.intro ?_ ?_<;>conv=>whnf)
    | (refine an.same rfl ?_;conv=>whnf)
    | (refine an.row rfl ?_;conv=>whnf)
    | (refine an.call rfl ?_;conv=>whnf)
    | (refine aS.of ?_;conv=>whnf)
    | (refine aa.of ?_;conv=>whnf)
    | (refine ar.aj (ak.bP ae rfl rfl rfl n hcA (by omega) rfl ?_);conv=>whnf)
    | (refine ar.aj (ak.aF ae rfl rfl (ad:=⟨br,0,none⟩) (k:=n*8+1) (L:=E) (v:=.int .i64 st) (aG.row (by simp[Fx.and])) (fun _=>Addr.cU rfl _ _) gT ?_);conv=>whnf)
    | (refine an.mk ?_ ?_;(focus (first | exact ao.refl _ | exact ao.left _ _ | exact ao.of_le ⟨List.sublist_append_left _ _,fun w h=>h⟩ | exact ao.of_le ⟨List.Sublist.refl _,fun w h=>h.1⟩));conv=>whnf))
   refine bU.split (fun hk=>?_) (fun hk=>?_)
   · conv=>whnf
     repeat (refine aa.of ?_;conv=>whnf)
     exact⟨_,ao.refl _,rfl⟩
   have hk1:bD st 1=true:=by
    simp only[aO,aM] at hk ⊢
    simpa using hk
   conv=>whnf
   repeat (refine aa.of ?_;conv=>whnf)
   refine⟨br,⟨⟨⟨hq1,hq2⟩,h0⟩,hk1⟩,[],⟨by decide,by simp,rfl⟩,?_,ao.of_le ⟨by simp[Fx.and],fun w hw=>hw.1⟩⟩
   repeat (first | exact ax.nil | refine ax.any ?_ | refine ax.cons ?_ | exact ax.eq (congrArg (fun z=>SV.v (Value.int .i64 z)) hcA) ?_ | refine ax.eq (congrArg (fun z=>SV.v (Value.int .i64 z)) hcA) ?_)
 · intro x hx bs' hbs'
   obtain⟨⟨⟨hq1,hq2⟩,h0⟩,hk⟩:=hx
   obtain rfl:=List.eq_nil_of_length_eq_zero hbs'
   have hok:=ho.ok hq1
   have hsm:=ho.small hq1 hq2 hfl
   rw[← hst] at hk
   obtain⟨j,hj,hlb,hch⟩:=r9 s h0 hn1 hn2 hk
   have hl3:s.rc.l.length≤3000:=by
    have:=sP s
    unfold qZ at this
    omega
   refine wS s hok n w0 av E g377 x fun bs hbs=>?_
   rw[hlb]
   exact vU s hok hsm n j hj hl3 hch w0 av E hE x bs hbs
end Go.Proofs.YtlnhdpjnlffaoaaGreatDoor
