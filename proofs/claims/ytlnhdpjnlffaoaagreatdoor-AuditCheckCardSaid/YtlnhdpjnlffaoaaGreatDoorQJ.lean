/- Parts of the proof: AbE, AbF, AbG, AbH, AbI, AbJ, AbK, ShE, AbL, AbM, AbN, AbO, AbP, AbR. -/
import Derived.Test.YtlnhdpjnlffaoaaGreatDoorQH
import Derived.Test.YtlnhdpjnlffaoaaGreatDoorQI
import Derived.Shelf.Sort.Plain
import Derived.Shelf.Slices.CompactI
import Derived.Shelf.Slices.In.SortNone
import Derived.Test.YtlnhdpjnlffaoaaGreatDoorProg
import Derived.Test.YtlnhdpjnlffaoaaGreatDoorQC
namespace Go.Proofs.YtlnhdpjnlffaoaaGreatDoor
open Go Go.Sx
set_option maxRecDepth 100000
set_option maxHeartbeats 4000000
set_option linter.unusedVariables false
set_option linter.unusedSimpArgs false
def oJ (s:bW):Bool:=decide (s.pe.l.length=0) && !([s.M 0,s.M 1,s.M 2,s.M 3,s.M 4].any fun y=>true == y)
theorem mX (C:List Value) (s:bW) (hC:dV C s) (ho:s.Ok):af Tryz.prog 72 [.agg ⟨C⟩] s.Rows (fun v F=>v = .bool (oJ s)):=by
 have hb : ∀ b:Nat,_:=fun b=>rv true [s.M 0,s.M 1,s.M 2,s.M 3,s.M 4] ⟨some ⟨b,367,none⟩,5⟩ ⟨by simp,by simp⟩ (by simp)
 unfold oJ
 generalize ([s.M 0,s.M 1,s.M 2,s.M 3,s.M 4].any fun y=>true == y)=q at *
 refine af.aG ae Tryz.func72 rfl (by decide) (n:=Tryz.f72.ntmps - 1) rfl rfl fun w0 av=>?_
 conv=>whnf
 repeat (refine aa.of ?_;conv=>whnf)
 refine ar.bQ fun br=>?_
 conv=>whnf
 repeat (refine aa.of ?_;conv=>whnf)
 have hr:(C.drop 367).take 5 = [s.M 0,s.M 1,s.M 2,s.M 3,s.M 4].map Value.bool:=by
  have:=congrArg (List.take 5) hC.iq
  rw[List.take_take] at this
  exact this
 repeat' (first
  | (refine ar.aj (ak.aH ae rfl rfl (ad:=⟨br,0,none⟩) (k:=372) (L:=C) (v:=s.pe.v) (aK.row (by simp[Value.cells])) (fun _=>rfl) (cellOf hC.iq (j:=5) (by decide) rfl) ?_);conv=>whnf)
  | (refine ar.aj (ak.yN ae (t:=66) rfl rfl rfl rfl ?_);conv=>whnf)
  | (refine aw.look (hb br) (Loc.row _ _) (fun w hst=>hr ▸ ((aK.row (b:=br) (C:=C) (by simp[Value.cells]) w hst).drop 367).take 5) ?_;conv=>whnf)
  | (split<;>conv=>whnf))
 all_goals refine⟨_,ax.refl _,?_⟩
 all_goals first | rfl | (congr 1;rw[Bool.eq_iff_iff];simp_all [aD,ao,aC,aB,aA,aE,and_assoc];done)
def uq (x:DM):nG:=⟨1,x.tag,x.frame,x.w⟩
def k7 (s:bW):Bool:=if s.wi.l.length=0 then !s.tr.opn else decide (s.wi.l.length=1)&&(fj (aW s.wi.l[0]!) (aW (uq s.tr))&&(s.tr.opn&&(s.dc.opn&&aR s.dc.tag s.tr.tag)))
theorem zI (x y:nG):rr Tryz.prog (Tryz.prog.fieldsOf 168).toList 0 (aW x) (aW y):=by
 rw[show Tryz.prog.fieldsOf 168=_ from by unfold Program.fieldsOf;rw[Tryz.underlying168]]
 exact⟨⟨by decide,rfl,.inl ⟨by kernel_rfl,_,_,rfl,rfl⟩⟩,⟨by decide,rfl,.inl ⟨by kernel_rfl,_,_,rfl,rfl⟩⟩,⟨by decide,rfl,.inl ⟨by kernel_rfl,_,_,rfl,rfl⟩⟩,⟨by decide,rfl,.inr ⟨by kernel_rfl,_,_,rfl,rfl⟩⟩,trivial⟩
theorem Dp:Tryz.prog.underlying 168=some (.struct (Tryz.prog.fieldsOf 168)):=by
 unfold Program.fieldsOf
 rw[Tryz.underlying168]
theorem qP (C:List Value) (s:bW) (hC:dV C s) (ho:s.Ok):af Tryz.prog 67 [.agg ⟨C⟩] s.Rows (fun v F=>v = .bool (k7 s)):=by
 have hwi:=hC.wi
 have hnil:=ho.wi.h.nil
 have hbang:0<s.wi.l.length→s.wi.l[0]! = s.wi.l[0]!:=fun _=>rfl
 unfold Sl.v at hwi
 unfold k7
 obtain⟨q,hq⟩ : ∃ q,fj (aW s.wi.l[0]!) (aW (uq s.tr))=q:=⟨_,rfl⟩
 obtain⟨n,hn⟩ : ∃ n,s.wi.l.length=n:=⟨_,rfl⟩
 rw[hq,hn]
 rw[hn] at hwi hnil
 refine af.aG ae Tryz.func67 rfl (by decide) (n:=Tryz.f67.ntmps - 1) rfl rfl fun w0 av=>?_
 conv=>whnf
 repeat (refine aa.of ?_;conv=>whnf)
 refine ar.bQ fun br=>?_
 conv=>whnf
 repeat (refine aa.of ?_;conv=>whnf)
 refine ar.aj (ak.aQ ae rfl rfl (ad:=⟨br,0,none⟩) (k:=318) (L:=C) (m:=rJ s.tr) (aK.row (by simp[Value.cells])) rfl hC.tr rfl ?_)
 conv=>whnf
 repeat (refine aa.of ?_;conv=>whnf)
 intro b1
 conv=>whnf
 repeat (refine aa.of ?_;conv=>whnf)
 refine ar.aj (ak.aH ae rfl rfl (ad:=⟨br,0,none⟩) (k:=307) (L:=C) (v:=s.wi.h.v n) (aK.row (by simp[Value.cells])) (fun _=>rfl) hwi ?_)
 conv=>whnf
 repeat (refine aa.of ?_;conv=>whnf)
 refine bF.split (fun h0=>?_) (fun h0=>?_)
 · have hz:n=0:=by
    simp[aA] at h0
    omega
   conv=>whnf
   repeat (refine aa.of ?_;conv=>whnf)
   exact⟨_,ax.refl _,by rw[if_pos hz]⟩
 · have hz:n≠0:=by
    simp[aA] at h0
    omega
   rw[if_neg hz]
   conv=>whnf
   repeat (refine aa.of ?_;conv=>whnf)
   intro b2
   conv=>whnf
   repeat (refine aa.of ?_;conv=>whnf)
   have hd:decide (n=1)=aR (n:Int) 1:=by
    rw[aA,Bool.eq_iff_iff]
    simp
    omega
   have hget:0<s.wi.l.length→((s.wi.l.flatMap aW).drop (0*4)).take 4=aW s.wi.l[0]!:=fun h=>by
    rw[bn h]
    exact a8 (cf:=aW) (z:=4) (fun _=>rfl) h
   refine az.draw ae mixed rfl rfl ?_
   conv=>whnf
   repeat' (first
    | (refine ak.aH ae rfl rfl (ad:=⟨br,0,none⟩) (k:=307) (L:=C) (v:=s.wi.h.v n) (aK.row (by simp[Value.cells])) (fun _=>rfl) hwi ?_;conv=>whnf)
    | (refine ak.index ae (t:=95) rfl rfl rfl (by omega) (by omega) hnil fun ad had=>?_;conv=>whnf)
    | (refine ak.aQ ae rfl rfl (ad:=ad) (k:=0*4) (L:=s.wi.l.flatMap aW) (m:=aW s.wi.l[0]!) (.fact fun w hw=>had ▸ hw.wi) (by simp) (hget (by omega)) rfl ?_;conv=>whnf)
    | (refine ak.wR Dp (by kernel_rfl) (by kernel_rfl) (xs:=aW s.wi.l[0]!) (ys:=aW (uq s.tr)) (zI _ _) ?_;rw[hq];conv=>whnf)
    | (refine ak.aH ae rfl rfl (ad:=⟨br,0,none⟩) (k:=309) (L:=C) (v:=.bool s.dc.opn) (aK.row (by simp[Value.cells])) (fun _=>rfl) (cellOf hC.dk (j:=1) (by decide) rfl) ?_;conv=>whnf)
    | (refine ak.aH ae rfl rfl (ad:=⟨br,0,none⟩) (k:=310) (L:=C) (v:=.int .i64 s.dc.tag) (aK.row (by simp[Value.cells])) (fun _=>rfl) (cellOf hC.dk (j:=2) (by decide) rfl) ?_;conv=>whnf)
    | (split<;>conv=>whnf))
   all_goals
    refine⟨_,ax.refl _,?_⟩
    clear hq hget hnil hwi hC ho hbang
    rw[hd]
    simp_all
def c7 (c:Int):Int:=if aR c 98 then 1 else if aR c 101 then 24 else if aR c 112 then 31 else if aR c 102 then 95 else if aR c 107 then 159 else if aR c 115 then 19 else if aR c 109 then 2 else if aR c 122 then 9 else if aR c 121 then 5 else if aR c 118 then 255 else 0
theorem xv (c:Int):af Tryz.prog 257 [.int .u8 c] (fun _=>True) (fun v F=>v = .int .i64 (c7 c)):=by
 refine af.aG ae Tryz.func257 rfl (by decide) (n:=Tryz.f257.ntmps - 1) rfl rfl fun w0 av=>?_
 conv=>whnf
 repeat (refine aa.of ?_;conv=>whnf)
 repeat' (first
  | (refine bF.split (fun h=>?_) (fun h=>?_)<;>conv=>whnf))
 all_goals exact⟨_,ax.refl _,by unfold c7;simp only[*,if_true,if_false,Bool.false_eq_true]⟩
def fQ (c n:Int):Bool:=if aR c 42 then true else if aR c 110 then dL n 0 else if aR c 116 then dL n 1 else if aR c 117 then dL n 16&&fI n 32 else if aR c 99 then dL n 1&&eW n 10 else if aR c 103 then dL n (-1)&&fI n 96 else
 if aR c 100 then dL n 1&&eW n 4 else if aR c 120 then gY n 0&&eW n 7 else if aR c 111 then dL n 1&&eW n 6 else if aR c 113 then dL n 1&&eW n 6 else if aR c 114 then dL n 1&&eW n 3 else dL n 0&&eW n (c7 c)
theorem jG (c n:Int):af Tryz.prog 240 [.int .u8 c,.int .i64 n] (fun _=>True) (fun v F=>v = .bool (fQ c n)):=by
 have h1:=xv c
 obtain⟨m,hm⟩ : ∃ m,c7 c=m:=⟨_,rfl⟩
 rw[hm] at h1
 unfold fQ
 rw[hm]
 refine af.aG ae Tryz.func240 rfl (by decide) (n:=Tryz.f240.ntmps - 2) rfl rfl fun w0 av=>?_
 conv=>whnf
 repeat (refine aa.of ?_;conv=>whnf)
 repeat' (first
  | (refine aa.of ?_;conv=>whnf)
  | (refine aw.val h1 (fun w hw=>trivial) (fun v D hv=>?_);subst hv;conv=>whnf)
  | (refine bF.split (fun h=>?_) (fun h=>?_)<;>conv=>whnf))
 all_goals exact⟨_,ax.refl _,by simp only[*,if_true,if_false,cond_true,cond_false,Bool.false_eq_true,Bool.and_true,Bool.true_and,Bool.and_false,Bool.false_and]⟩
def cz (l:List UInt8) (i:Nat):Int:=if i<l.length then (l[i]!.toNat:Int) else 48
def cV (l:List UInt8) (A:List Int):Bool:=allI 4 fun i=>fQ (cz l i) A[i]!
theorem xk (l:List UInt8) (hl:l.length≤1000) (A:List Int) (hA:A.length=4):af Tryz.prog 208 [eJ l,.agg ⟨A.map bH⟩] (fun _=>True) (fun v F=>v = .bool (cV l A)):=by
 obtain⟨a0,a1,a2,a3,rfl⟩ : ∃ a0 a1 a2 a3,A = [a0,a1,a2,a3]:=by
  rcases A with _ | ⟨a,_ | ⟨b,_ | ⟨c,_ | ⟨d,_ | ⟨e,A⟩⟩⟩⟩⟩<;>simp at hA
  exact⟨a,b,c,d,rfl⟩
 refine af.aG ae Tryz.func208 rfl (by decide) (n:=Tryz.f208.ntmps - 2) rfl rfl fun w0 av=>?_
 conv=>whnf
 repeat (refine aa.of ?_;conv=>whnf)
 intro b1
 conv=>whnf
 repeat (refine aa.of ?_;conv=>whnf)
 refine az.loop ae (ι:=Nat) ([5,6,7,9]++List.range' 10 15) (fun x=>x≤4∧∀ j,j<x→fQ (cz l j) [a0,a1,a2,a3][j]! = true)
  (fun x=>[(9,.v (.int .i64 (x:Int)))]) (fun _=>[[a0,a1,a2,a3].map bH]) (fun _=>⟨fun _=>True,[]⟩)
  (fun x=>4 - x) 0 ⟨Nat.zero_le _,fun j h=>by omega⟩ ?_ rfl (ax.refl _) fun i hi=>?_
 · conv=>whnf
   repeat (first | exact au.nil | refine au.any ?_ | refine au.cons ?_)
 obtain⟨hi,hall⟩:=hi
 conv=>whnf
 repeat (refine aa.of ?_;conv=>whnf)
 refine bF.split (fun hlt=>?_) (fun hlt=>?_)
 · have hlt':i<4:=by
    simp[ao] at hlt
    omega
   have h1:=jG (cz l i) [a0,a1,a2,a3][i]!
   obtain⟨q,hq⟩ : ∃ q,fQ (cz l i) [a0,a1,a2,a3][i]! = q:=⟨_,rfl⟩
   rw[hq] at h1
   obtain⟨m,hm⟩ : ∃ m,[a0,a1,a2,a3][i]! = m:=⟨_,rfl⟩
   rw[hm] at h1
   have hget:([a0,a1,a2,a3].map bH)[i]? = some (.int .i64 m):=by
    rw[List.getElem?_map,List.getElem?_eq_getElem (by simpa using hlt')]
    rw[bn (by simpa using hlt')] at hm
    rw[hm]
    rfl
   conv=>whnf
   repeat (refine aa.of ?_;conv=>whnf)
   refine ar.aj (ak.hJ ae (t:=204) rfl rfl rfl rfl rfl (l:=[a0,a1,a2,a3].map bH) i rfl hlt' (v:=.int .i64 m) hget ?_)
   conv=>whnf
   repeat (refine aa.of ?_;conv=>whnf)
   by_cases hc:i<l.length
   · have hb:fI (i:Int) (l.length:Int)=true:=by simp[ao];omega
     have hcl:cz l i=(l[i].toNat:Int):=by
      unfold cz
      rw[if_pos hc,bn hc]
     rw[hcl] at h1
     refine bF.yes hb ?_
     conv=>whnf
     repeat (refine aa.of ?_;conv=>whnf)
     refine ar.aj (ak.uN ae (t:=9) rfl rfl (l:=l) i rfl hc ?_)
     conv=>whnf
     repeat (refine aa.of ?_;conv=>whnf)
     refine aw.val h1 (fun w hw=>trivial) (fun v D hv=>?_)
     subst hv
     cases q
     · conv=>whnf
       repeat (refine aa.of ?_;conv=>whnf)
       exact⟨_,ax.refl _,by unfold cV;rw[aJ hlt' (by simpa using hq)]⟩
     · conv=>whnf
       repeat (refine aa.of ?_;conv=>whnf)
       refine⟨i+1,⟨⟨hlt',fun j hj=>?_⟩,by dsimp only;omega⟩,?_,?_,ax.refl _⟩
       · rcases Nat.lt_or_eq_of_le (Nat.lt_succ_iff.1 hj) with h5 | h5
         · exact hall j h5
         · exact h5 ▸ hq
       · conv=>whnf
         refine⟨?_,rfl⟩
         repeat (first | exact au.nil | refine au.any ?_ | refine au.cons ?_ | refine au.eq (by rw[wrap_i64 (by omega)];rfl) ?_)
       · conv=>whnf
         exact⟨⟨rfl,rfl⟩,trivial⟩
   · have hb:fI (i:Int) (l.length:Int)=false:=by simp[ao];omega
     have hcl:cz l i=48:=by
      unfold cz
      rw[if_neg hc]
     rw[hcl] at h1
     refine bF.no hb ?_
     conv=>whnf
     repeat (refine aa.of ?_;conv=>whnf)
     refine aw.val h1 (fun w hw=>trivial) (fun v D hv=>?_)
     subst hv
     cases q
     · conv=>whnf
       repeat (refine aa.of ?_;conv=>whnf)
       exact⟨_,ax.refl _,by unfold cV;rw[aJ hlt' (by simpa using hq)]⟩
     · conv=>whnf
       repeat (refine aa.of ?_;conv=>whnf)
       refine⟨i+1,⟨⟨hlt',fun j hj=>?_⟩,by dsimp only;omega⟩,?_,?_,ax.refl _⟩
       · rcases Nat.lt_or_eq_of_le (Nat.lt_succ_iff.1 hj) with h5 | h5
         · exact hall j h5
         · exact h5 ▸ hq
       · conv=>whnf
         refine⟨?_,rfl⟩
         repeat (first | exact au.nil | refine au.any ?_ | refine au.cons ?_ | refine au.eq (by rw[wrap_i64 (by omega)];rfl) ?_)
       · conv=>whnf
         exact⟨⟨rfl,rfl⟩,trivial⟩
 · have hie:i=4:=by
    simp[ao] at hlt
    omega
   subst hie
   conv=>whnf
   repeat (refine aa.of ?_;conv=>whnf)
   exact⟨_,ax.refl _,by unfold cV;rw[aV hall]⟩
def eu (c:Int):Int:=if aR c 0 then 3 else if aR c 1 then 3 else if aR c 2 then 3 else if aR c 3 then 3 else if aR c 4 then 3 else if aR c 5 then 3 else if aR c 6 then 4 else if aR c 18 then 10 else if aR c 19 then 10 else if fI c 0||dL c 20 then 0 else 5
def ew (c:Int):Bool:=if aR c 0 then true else if aR c 1 then true else if aR c 2 then true else if aR c 3 then true else if aR c 4 then true else if aR c 5 then true else if aR c 6 then true else if aR c 18 then true else if aR c 19 then true else !(fI c 0||dL c 20)
theorem uV (c:Int):af Tryz.prog 241 [.int .i64 c] (fun _=>True) (fun v F=>v = .tuple ⟨[.int .i64 (eu c),.bool (ew c)]⟩):=by
 refine af.aG ae Tryz.func241 rfl (by decide) (n:=Tryz.f241.ntmps - 1) rfl rfl fun w0 av=>?_
 conv=>whnf
 repeat (refine aa.of ?_;conv=>whnf)
 repeat' (first
  | (refine aa.of ?_;conv=>whnf)
  | (refine bF.split (fun h=>?_) (fun h=>?_)<;>conv=>whnf))
 all_goals exact⟨_,ax.refl _,by unfold eu ew;first | (simp_all;done) | (cases hx:fI c 0<;>cases hy:dL c 20<;>simp_all)⟩
def en (d:Int):Int:=if fQ 100 d then (if aR d 1 then 7 else if aR d 2 then 8 else if aR d 3 then 9 else 10) else 0
theorem BA {d:Int} (h:fQ 100 d=true):1≤d∧d≤4:=by
 unfold fQ at h
 simpa [aA,aD,aC] using h
theorem uL (d:Int):af Tryz.prog 242 [.int .i64 d] (fun _=>True) (fun v F=>v = .int .i64 (en d)):=by
 have h1:=jG 100 d
 have hb:=@BA d
 unfold en
 generalize fQ 100 d=q at *
 refine af.aG ae Tryz.func242 rfl (by decide) (n:=Tryz.f242.ntmps - 1) rfl rfl fun w0 av=>?_
 conv=>whnf
 repeat (refine aa.of ?_;conv=>whnf)
 refine aw.val h1 (fun w hw=>trivial) (fun v D hv=>?_)
 subst hv
 cases q
 · conv=>whnf
   repeat (refine aa.of ?_;conv=>whnf)
   exact⟨_,ax.refl _,rfl⟩
 · have hd:=hb rfl
   conv=>whnf
   repeat (refine aa.of ?_;conv=>whnf)
   refine ar.aj (ak.hJ ae rfl rfl rfl rfl rfl d.toNat (by omega) (by omega) (v:=.int .i64 (if aR d 1 then 7 else if aR d 2 then 8 else if aR d 3 then 9 else 10)) ?_ ?_)
   · obtain h | h | h | h:d=1∨d=2∨d=3∨d=4:=by omega
     all_goals
      subst h
      simp[aA]
   conv=>whnf
   repeat (refine aa.of ?_;conv=>whnf)
   exact⟨_,ax.refl _,by rw[if_pos rfl]⟩
def de (x:Mg):Bool:=if aR x.kind 1 then ew x.a0&&(fQ 117 x.src&&aR x.dst (eu x.a0)) else if aR x.kind 2 then fQ 117 x.src else if aR x.kind 3 then aR x.dst (en x.a0) else if aR x.kind 4 then fQ 99 x.dst else if aR x.kind 27 then fQ 99 x.dst else
 if aR x.kind 6 then fQ 99 x.dst&&fw x.dst 1 else if aR x.kind 7 then fQ 99 x.src&&fw x.src 1 else if aR x.kind 26 then fQ 99 x.src else if aR x.kind 20 then (aR x.src 4&&dL x.a1 96)||(aR x.src 6&&fI x.a1 96) else if aR x.kind 21 then aR x.dst 4||aR x.dst 6 else true
theorem xV (x:Mg):af Tryz.prog 209 [.agg ⟨gv x⟩] (fun _=>True) (fun v F=>v = .bool (de x)):=by
 have h1:=uV x.a0
 have h2:=jG 117 x.src
 have h3:=uL x.a0
 have h4:=jG 99 x.dst
 have h5:=jG 99 x.src
 unfold de
 generalize eu x.a0=t at *
 generalize ew x.a0=q1 at *
 generalize fQ 117 x.src=q2 at *
 generalize en x.a0=d at *
 generalize fQ 99 x.dst=q4 at *
 generalize fQ 99 x.src=q5 at *
 refine af.aG ae Tryz.func209 rfl (by decide) (n:=Tryz.f209.ntmps - 1) rfl rfl fun w0 av=>?_
 conv=>whnf
 repeat (refine aa.of ?_;conv=>whnf)
 intro b1
 conv=>whnf
 repeat (refine aa.of ?_;conv=>whnf)
 repeat' (first
  | (refine dv.of ?_;conv=>whnf)
  | (refine aa.of ?_;conv=>whnf)
  | (refine az.draw ae mixed rfl rfl ?_;conv=>whnf)
  | (refine aw.val h1 (fun w hw=>trivial) (fun v D hv=>?_);subst hv;conv=>whnf)
  | (refine aw.val h2 (fun w hw=>trivial) (fun v D hv=>?_);subst hv;conv=>whnf)
  | (refine aw.val h3 (fun w hw=>trivial) (fun v D hv=>?_);subst hv;conv=>whnf)
  | (refine aw.val h4 (fun w hw=>trivial) (fun v D hv=>?_);subst hv;conv=>whnf)
  | (refine aw.val h5 (fun w hw=>trivial) (fun v D hv=>?_);subst hv;conv=>whnf)
  | (refine bF.split (fun h=>?_) (fun h=>?_)<;>conv=>whnf))
 all_goals refine⟨_,ax.refl _,?_⟩
 all_goals first | rfl | (simp only[*,if_true,if_false,cond_true,cond_false,Bool.false_eq_true,Bool.and_true,Bool.true_and,Bool.and_false,Bool.false_and,Bool.or_true,Bool.true_or,Bool.or_false,Bool.false_or];done) | (simp_all;done)
def cD (x:Mg):Bool:=if aR x.kind 8 then fw x.a0 x.a1 else if aR x.kind 12 then fw x.a0 x.a1 else if aR x.kind 20 then (if aR x.a0 1&&aR x.a2 (-1) then aR (x.data.n:Int) 128 else aR (x.data.n:Int) 0) else if aR x.kind 24 then (if aR x.a0 5 then aR x.a1 0 else fQ 117 x.a1) else true
theorem wv (x:Mg):af Tryz.prog 210 [.agg ⟨gv x⟩] (fun _=>True) (fun v F=>v = .bool (cD x)):=by
 have h1:=jG 117 x.a1
 unfold cD
 generalize fQ 117 x.a1=q1 at *
 refine af.aG ae Tryz.func210 rfl (by decide) (n:=Tryz.f210.ntmps - 1) rfl rfl fun w0 av=>?_
 conv=>whnf
 repeat (refine aa.of ?_;conv=>whnf)
 intro b1
 conv=>whnf
 repeat (refine aa.of ?_;conv=>whnf)
 repeat' (first
  | (refine aw.val h1 (fun w hw=>trivial) (fun v D hv=>?_);subst hv;conv=>whnf)
  | (refine bF.split (fun h=>?_) (fun h=>?_)<;>conv=>whnf)
  | (split<;>conv=>whnf))
 all_goals refine⟨_,ax.refl _,?_⟩
 all_goals first | rfl | (simp_all;done)
structure Fm where
 fr:Int
 to:Int
 args:List UInt8
 data:Int
instance:Inhabited Fm:=⟨⟨0,0,[],0⟩⟩
def zX (x:Fm):List Value:=[.int .i64 x.fr,.int .i64 x.to,eJ x.args,.int .i64 x.data]
def cv:List Fm:=[⟨0,0,[],0⟩,⟨-1,-1,[115,42,42,42],128⟩,⟨-1,4,[112,98],0⟩,⟨0,-1,[100,110,42,42],128⟩,⟨0,-1,[42,110],0⟩,⟨0,1,[99,120],0⟩,⟨1,-1,[110],0⟩,⟨-1,1,[110],0⟩,⟨3,4,[117,117],0⟩,⟨3,4,[117],1536⟩,
 ⟨3,4,[117],0⟩,⟨4,3,[117,101,110],0⟩,⟨3,5,[117,117],0⟩,⟨3,5,[117],128⟩,⟨3,5,[117],0⟩,⟨5,3,[117,101],1536⟩,⟨3,10,[117],0⟩,⟨10,3,[117],0⟩,⟨5,6,[111,42,42,42],128⟩,⟨6,5,[101,42,121],1536⟩,
 ⟨-1,7,[98,107,103],128⟩,⟨7,-1,[101,107],128⟩,⟨5,9,[109,117,110],128⟩,⟨9,5,[117,101],128⟩,⟨5,8,[113,42,42,42],128⟩,⟨8,5,[117,101,42],128⟩,⟨-1,2,[122,42],128⟩,⟨2,-1,[101,42],128⟩]
theorem ya:cv.length=28:=rfl
theorem vd : ∀ x∈cv,x.args.length≤1000:=by decide
def bJ (w:World):Prop:=ai w (some ⟨0,0,none⟩) (cv.flatMap zX)
def bA (x:Mg):Bool:=if fI x.kind 1||(dL x.kind 28||fI x.seq 0) then false else
 (fI cv[x.kind.toNat]!.fr 0||aR x.src cv[x.kind.toNat]!.fr)&&((fI cv[x.kind.toNat]!.to 0||aR x.dst cv[x.kind.toNat]!.to)&&(cV cv[x.kind.toNat]!.args [x.a0,x.a1,x.a2,x.a3]&&(eW (x.data.n:Int) cv[x.kind.toNat]!.data&&(de x&&cD x))))
theorem oD (x:Mg):af Tryz.prog 131 [.agg ⟨gv x⟩] bJ (fun v F=>v = .bool (bA x)):=by
 have h1:=xV x
 have h2:=wv x
 unfold bA
 generalize de x=q1 at *
 generalize cD x=q2 at *
 obtain⟨k,hk⟩ : ∃ k,x.kind=k:=⟨_,rfl⟩
 obtain⟨sq,hsq⟩ : ∃ k,x.seq=k:=⟨_,rfl⟩
 have hm:gv x = [.int .i64 x.src,.int .i64 x.dst,.int .i64 k,.int .i64 sq,.int .i64 x.a0,.int .i64 x.a1,.int .i64 x.a2,.int .i64 x.a3,du x.data]:=by rw[← hk,← hsq];rfl
 rw[hk,hsq]
 by_cases hg:1≤k∧k<28∧0≤sq
 · have g1:fI k 1=false:=by simp[ao];omega
   have g2:dL k 28=false:=by simp[aD];omega
   have g3:fI sq 0=false:=by simp[ao];omega
   have hi:k.toNat<cv.length:=by rw[ya];omega
   obtain⟨f,hf⟩ : ∃ f,f=cv[k.toNat]'hi:=⟨_,rfl⟩
   have hget:((cv.flatMap zX).drop (k.toNat*4)).take 4=zX f:=by
    rw[hf]
    exact a8 (cf:=zX) (z:=4) (fun _=>rfl) hi
   have h3:=xk f.args (by rw[hf];exact vd _ (List.getElem_mem hi)) [x.a0,x.a1,x.a2,x.a3] rfl
   rw[bn hi,← hf]
   generalize cV f.args [x.a0,x.a1,x.a2,x.a3]=q3 at *
   clear hf
   rw[g1,g2,g3,if_neg (by decide)]
   refine af.aG ae Tryz.func131 rfl (by decide) (n:=Tryz.f131.ntmps - 1) rfl rfl fun w0 av=>?_
   conv=>whnf
   repeat (refine aa.of ?_;conv=>whnf)
   rw[hm]
   intro b1
   conv=>whnf
   repeat (refine aa.of ?_;conv=>whnf)
   repeat' (first
    | (refine aa.of ?_;conv=>whnf)
    | (rw[g1];conv=>whnf)
    | (rw[g2];conv=>whnf)
    | (rw[g3];conv=>whnf)
    | (refine ar.aj (ak.bj ae (t:=340) rfl rfl rfl k.toNat (by omega) (by omega) rfl ?_);conv=>whnf)
    | (refine ar.aj (ak.aQ ae rfl rfl (ad:=⟨0,0,none⟩) (k:=k.toNat*4) (L:=cv.flatMap zX) (m:=zX f) (.fact fun w hw=>hw) (by simp[Addr.add]) hget rfl ?_);conv=>whnf)
    | (intro b2;conv=>whnf)
    | (refine aw.val h3 (fun w hw=>trivial) (fun v D hv=>?_);subst hv;conv=>whnf)
    | (rw[← hm];refine aw.val h1 (fun w hw=>trivial) (fun v D hv=>?_);subst hv;rw[hm];conv=>whnf)
    | (rw[← hm];refine aw.val h2 (fun w hw=>trivial) (fun v D hv=>?_);subst hv;rw[hm];conv=>whnf)
    | (refine bF.split (fun h=>?_) (fun h=>?_)<;>conv=>whnf))
   all_goals refine⟨_,ax.refl _,?_⟩
   all_goals first | rfl | (simp only[*,if_true,if_false,cond_true,cond_false,Bool.false_eq_true,Bool.and_true,Bool.true_and,Bool.and_false,Bool.false_and,Bool.or_true,Bool.true_or,Bool.or_false,Bool.false_or];done) | (simp_all;done)
 · have hbad:(fI k 1||(dL k 28||fI sq 0))=true:=by
    simp[ao,aD]
    omega
   rw[if_pos hbad]
   refine af.aG ae Tryz.func131 rfl (by decide) (n:=Tryz.f131.ntmps - 1) rfl rfl fun w0 av=>?_
   conv=>whnf
   repeat (refine aa.of ?_;conv=>whnf)
   rw[hm]
   intro b1
   conv=>whnf
   repeat (refine aa.of ?_;conv=>whnf)
   refine bF.split (fun h=>?_) (fun h=>?_)
   · conv=>whnf
     repeat (refine aa.of ?_;conv=>whnf)
     exact⟨_,ax.refl _,rfl⟩
   · exfalso
     simp_all
theorem AF {α:Type} (cf:α→List Value) (hz : ∀ x,(cf x).length=9) (f:FuncId) (Pre:World→Prop) (p:α→Bool) (l:List α) (h:Hd) (hh:h.Ok l.length) (hl:l.length≤140737488355328) (hf : ∀ e∈l,af Tryz.prog f [.agg ⟨cf e⟩] Pre (fun v F=>v = .bool (p e))) :
 af Tryz.prog 207 [h.v l.length,.func (.func f) #[] #[]] (fun w=>ai w h.a (l.flatMap cf)∧Pre w) (fun v F=>v = .int .i64 (ek (l.findIdx? p))):=by
 refine af.aG ae Tryz.func207 rfl (by decide) (n:=Tryz.f207.ntmps - 2) rfl rfl fun w0 av=>?_
 conv=>whnf
 refine az.loop ae (ι:=Nat) ([5]++List.range' 8 11) (fun x=>x≤l.length∧∀ j (hj:j<l.length),j<x→p l[j]=false)
  (fun x=>[(8,.v (.int .i64 (x:Int)))]) (fun _=>[]) (fun _=>⟨fun w=>ai w h.a (l.flatMap cf)∧Pre w,[]⟩)
  (fun x=>l.length - x) 0 ⟨Nat.zero_le _,fun j hj h=>by omega⟩ ?_ rfl (ax.refl _) fun i hi=>?_
 · conv=>whnf
   repeat (first | exact au.nil | refine au.any ?_ | refine au.cons ?_)
 obtain⟨hi,hall⟩:=hi
 conv=>whnf
 refine bF.split (fun hlt=>?_) (fun hlt=>?_)
 · have hlt':i<l.length:=by
    simp only[ao,decide_eq_true_eq] at hlt
    omega
   conv=>whnf
   repeat (refine aa.of ?_;conv=>whnf)
   refine ar.aj (ak.index ae (t:=27) rfl rfl rfl (by omega) (by omega) hh.nil fun ad had=>?_)
   conv=>whnf
   repeat (refine aa.of ?_;conv=>whnf)
   refine ar.aj (ak.aQ ae (t:=206) rfl rfl (ad:=ad) (k:=i*9) (L:=l.flatMap cf) (m:=cf l[i]) (.fact fun w hw=>had ▸ hw.1) (by simp) (a8 hz hlt') (hz _) ?_)
   conv=>whnf
   repeat (refine aa.of ?_;conv=>whnf)
   refine aw.val (hf _ (List.getElem_mem hlt')) (fun w hw=>hw.2) (fun v D hv=>?_)
   generalize hq:p l[i]=q at hv
   subst hv
   cases q
   · conv=>whnf
     repeat (refine aa.of ?_;conv=>whnf)
     refine⟨i+1,⟨⟨hlt',fun j hj h=>?_⟩,by dsimp only;omega⟩,?_,?_,ax.refl _⟩
     · rcases Nat.lt_or_eq_of_le (Nat.lt_succ_iff.1 h) with h5 | h5
       · exact hall j hj h5
       · subst h5
         exact hq
     · conv=>whnf
       refine⟨?_,rfl⟩
       repeat (first | exact au.nil | refine au.any ?_ | refine au.cons ?_ | refine au.eq (by rw[wrap_i64 (by omega)];rfl) ?_)
     · conv=>whnf
       exact trivial
   · conv=>whnf
     repeat (refine aa.of ?_;conv=>whnf)
     refine⟨_,ax.refl _,?_⟩
     have:l.findIdx? p=some i:=by
      rw[List.findIdx?_eq_some_iff_getElem]
      exact⟨hlt',hq,fun j hj=>by simpa using hall j (by omega) hj⟩
     rw[this]
     rfl
 · have hie:i=l.length:=by
    simp only[ao,decide_eq_false_iff_not] at hlt
    omega
   subst hie
   conv=>whnf
   repeat (refine aa.of ?_;conv=>whnf)
   refine⟨_,ax.refl _,?_⟩
   have:l.findIdx? p=none:=by
    rw[List.findIdx?_eq_none_iff]
    intro x hx
    obtain⟨j,hj,rfl⟩:=List.getElem_of_mem hx
    simpa using hall j hj hj
   rw[this]
   rfl
theorem AV {α:Type} (cf:α→List Value) (hz : ∀ x,(cf x).length=9) (f:FuncId) (Pre:World→Prop) (p:α→Bool) (l:List α) (h:Hd) (hh:h.Ok l.length) (hl:l.length≤140737488355328) (hf : ∀ e∈l,af Tryz.prog f [.agg ⟨cf e⟩] Pre (fun v F=>v = .bool (p e))) :
 af Tryz.prog 129 [h.v l.length,.func (.func f) #[] #[]] (fun w=>ai w h.a (l.flatMap cf)∧Pre w) (fun v F=>v = .bool (l.any p)):=by
 have hi:=AF cf hz f Pre p l h hh hl hf
 have hv:=dT l p
 generalize ek (l.findIdx? p)=j at *
 refine af.aG ae Tryz.func129 rfl (by decide) (n:=Tryz.f129.ntmps - 2) rfl rfl fun w0 av=>?_
 conv=>whnf
 repeat (refine aa.of ?_;conv=>whnf)
 refine aw.val hi (fun w hw=>hw) (fun v D hv=>?_)
 subst hv
 conv=>whnf
 repeat (refine aa.of ?_;conv=>whnf)
 exact⟨_,ax.refl _,by rw[← hv,aD]⟩
theorem xx (x:Mg):af Tryz.prog 130 [.agg ⟨gv x⟩] bJ (fun v F=>v = .bool (!bA x || !decide (1≤x.dst∧x.dst≤10))):=by
 have h1:=oD x
 have h2:=kP x.dst
 generalize bA x=q1 at *
 generalize decide (1≤x.dst∧x.dst≤10)=q2 at *
 refine af.aG ae Tryz.func130 rfl (by decide) (n:=Tryz.f130.ntmps - 1) rfl rfl fun w0 av=>?_
 conv=>whnf
 repeat (refine aa.of ?_;conv=>whnf)
 intro b1
 conv=>whnf
 repeat (refine aa.of ?_;conv=>whnf)
 refine aw.val h1 (fun w hw=>hw) (fun v D hv=>?_)
 subst hv
 cases q1
 · conv=>whnf
   repeat (refine aa.of ?_;conv=>whnf)
   exact⟨_,ax.refl _,rfl⟩
 · conv=>whnf
   repeat (refine aa.of ?_;conv=>whnf)
   refine aw.val h2 (fun w hw=>trivial) (fun v D hv=>?_)
   subst hv
   conv=>whnf
   repeat (refine aa.of ?_;conv=>whnf)
   exact⟨_,ax.refl _,rfl⟩
def s6 (s:bW):Bool:=!(s.q.l.any fun x=>!bA x || !decide (1≤x.dst∧x.dst≤10))
theorem qJ (C:List Value) (s:bW) (hC:dV C s) (ho:s.Ok):af Tryz.prog 70 [.agg ⟨C⟩] (fun w=>s.Rows w∧bJ w) (fun v F=>v = .bool (s6 s)):=by
 have hb:=AV gv (fun _=>rfl) 130 bJ (fun x=>!bA x || !decide (1≤x.dst∧x.dst≤10)) s.q.l s.q.h ho.q.h ho.q.le (fun e _=>xx e)
 unfold s6
 generalize (s.q.l.any fun x=>!bA x || !decide (1≤x.dst∧x.dst≤10))=q at *
 refine af.aG ae Tryz.func70 rfl (by decide) (n:=Tryz.f70.ntmps - 1) rfl rfl fun w0 av=>?_
 conv=>whnf
 repeat (refine aa.of ?_;conv=>whnf)
 refine ar.bQ fun br=>?_
 conv=>whnf
 repeat (refine aa.of ?_;conv=>whnf)
 refine ar.aj (ak.aH ae rfl rfl (ad:=⟨br,0,none⟩) (k:=267) (L:=C) (v:=s.q.v) (aK.row (by simp[Value.cells])) (fun _=>rfl) (cellOf hC.po (j:=0) (by decide) rfl) ?_)
 conv=>whnf
 repeat (refine aa.of ?_;conv=>whnf)
 refine aw.val hb (fun w hw=>⟨hw.1.q,hw.2⟩) (fun v D hv=>?_)
 subst hv
 conv=>whnf
 repeat (refine aa.of ?_;conv=>whnf)
 exact⟨_,ax.refl _,rfl⟩
theorem vV (C:List Value) (s:bW) (hC:dV C s) (ho:s.Ok) (b:Nat) (x:nG):af Tryz.prog 125 [.agg ⟨aW x⟩,.pointer (some ⟨b,0,none⟩)]
 (fun w=>ai w (some ⟨b,0,none⟩) C∧s.gr.At bM w) (fun v F=>v = .bool (!jT s.gr.l 7 x.frame (if x.w then 2 else 1))):=by
 have h1:=mg s.gr.l s.gr.h ho.gr.h ho.gr.le 7 x.frame 1
 have h2:=mg s.gr.l s.gr.h ho.gr.h ho.gr.le 7 x.frame 2
 generalize hq1:jT s.gr.l 7 x.frame 1=q1 at *
 generalize hq2:jT s.gr.l 7 x.frame 2=q2 at *
 obtain⟨dev,tag,frame,xw⟩:=x
 dsimp only at h1 h2 hq1 hq2 ⊢
 cases xw
 · rw[show(if false=true then (2:Int) else 1)=1 from rfl,hq1]
   refine af.aG ae Tryz.func125 rfl (by decide) (n:=Tryz.f125.ntmps - 2) rfl rfl fun w0 av=>?_
   conv=>whnf
   repeat (refine aa.of ?_;conv=>whnf)
   intro b1
   conv=>whnf
   repeat (refine aa.of ?_;conv=>whnf)
   refine ar.aj (ak.aH ae rfl rfl (ad:=⟨b,0,none⟩) (k:=271) (L:=C) (v:=s.gr.v) (.fact fun w hw=>hw.1) (fun _=>rfl) hC.gr ?_)
   conv=>whnf
   repeat (refine aa.of ?_;conv=>whnf)
   refine aw.val h1 (fun w hw=>hw.2) (fun v D hv=>?_)
   subst hv
   conv=>whnf
   repeat (refine aa.of ?_;conv=>whnf)
   exact⟨_,ax.refl _,rfl⟩
 · rw[show(if true=true then (2:Int) else 1)=2 from rfl,hq2]
   refine af.aG ae Tryz.func125 rfl (by decide) (n:=Tryz.f125.ntmps - 2) rfl rfl fun w0 av=>?_
   conv=>whnf
   repeat (refine aa.of ?_;conv=>whnf)
   intro b1
   conv=>whnf
   repeat (refine aa.of ?_;conv=>whnf)
   refine ar.aj (ak.aH ae rfl rfl (ad:=⟨b,0,none⟩) (k:=271) (L:=C) (v:=s.gr.v) (.fact fun w hw=>hw.1) (fun _=>rfl) hC.gr ?_)
   conv=>whnf
   repeat (refine aa.of ?_;conv=>whnf)
   refine aw.val h2 (fun w hw=>hw.2) (fun v D hv=>?_)
   subst hv
   conv=>whnf
   repeat (refine aa.of ?_;conv=>whnf)
   exact⟨_,ax.refl _,rfl⟩
def vJ (s:bW):Bool:=!(s.wi.l.any fun x=>!jT s.gr.l 7 x.frame (if x.w then 2 else 1))
theorem rM (C:List Value) (s:bW) (hC:dV C s) (ho:s.Ok):af Tryz.prog 68 [.agg ⟨C⟩] s.Rows (fun v F=>v = .bool (vJ s)):=by
 have hb : ∀ b:Nat,_:=fun b=>sX aW (fun _=>rfl) 125 (fun w=>ai w (some ⟨b,0,none⟩) C∧s.gr.At bM w) (fun x=>!jT s.gr.l 7 x.frame (if x.w then 2 else 1)) (.pointer (some ⟨b,0,none⟩)) s.wi.l s.wi.h ho.wi.h ho.wi.le (fun e _=>vV C s hC ho b e)
 unfold vJ
 generalize (s.wi.l.any fun x=>!jT s.gr.l 7 x.frame (if x.w then 2 else 1))=q at *
 refine af.aG ae Tryz.func68 rfl (by decide) (n:=Tryz.f68.ntmps - 1) rfl rfl fun w0 av=>?_
 conv=>whnf
 repeat (refine aa.of ?_;conv=>whnf)
 refine ar.bQ fun br=>?_
 conv=>whnf
 repeat (refine aa.of ?_;conv=>whnf)
 refine ar.aj (ak.aH ae rfl rfl (ad:=⟨br,0,none⟩) (k:=307) (L:=C) (v:=s.wi.v) (aK.row (by simp[Value.cells])) (fun _=>rfl) hC.wi ?_)
 conv=>whnf
 repeat (refine aa.of ?_;conv=>whnf)
 refine aw.look (hb br) ((Loc.row _ _).and ((Loc.row _ _).and (Loc.row _ _))) (fun w hst=>⟨hst.now.wi,aK.row (b:=br) (C:=C) (by simp[Value.cells]) w hst,hst.now.gr⟩) ?_
 conv=>whnf
 repeat (refine aa.of ?_;conv=>whnf)
 exact⟨_,ax.refl _,rfl⟩
theorem Bc {α:Type} (cf:α→List Value) (hz : ∀ x,(cf x).length=3) (f:FuncId) (Pre:World→Prop) (p:α→Bool) (u0:Value) (l:List α) (h:Hd) (hh:h.Ok l.length) (hl:l.length≤140737488355328) (hf : ∀ e∈l,af Tryz.prog f [.agg ⟨cf e⟩,u0] Pre (fun v F=>v = .bool (p e))) :
 af Tryz.prog 212 [h.v l.length,.func (.func f) #[] #[u0]] (fun w=>ai w h.a (l.flatMap cf)∧Pre w) (fun v F=>v = .int .i64 (ek (l.findIdx? p))):=by
 refine af.aG ae Tryz.func212 rfl (by decide) (n:=Tryz.f212.ntmps - 2) rfl rfl fun w0 av=>?_
 conv=>whnf
 refine az.loop ae (ι:=Nat) ([5]++List.range' 8 11) (fun x=>x≤l.length∧∀ j (hj:j<l.length),j<x→p l[j]=false)
  (fun x=>[(8,.v (.int .i64 (x:Int)))]) (fun _=>[]) (fun _=>⟨fun w=>ai w h.a (l.flatMap cf)∧Pre w,[]⟩)
  (fun x=>l.length - x) 0 ⟨Nat.zero_le _,fun j hj h=>by omega⟩ ?_ rfl (ax.refl _) fun i hi=>?_
 · conv=>whnf
   repeat (first | exact au.nil | refine au.any ?_ | refine au.cons ?_)
 obtain⟨hi,hall⟩:=hi
 conv=>whnf
 refine bF.split (fun hlt=>?_) (fun hlt=>?_)
 · have hlt':i<l.length:=by
    simp only[ao,decide_eq_true_eq] at hlt
    omega
   conv=>whnf
   repeat (refine aa.of ?_;conv=>whnf)
   refine ar.aj (ak.index ae (t:=88) rfl rfl rfl (by omega) (by omega) hh.nil fun ad had=>?_)
   conv=>whnf
   repeat (refine aa.of ?_;conv=>whnf)
   refine ar.aj (ak.aQ ae (t:=166) rfl rfl (ad:=ad) (k:=i*3) (L:=l.flatMap cf) (m:=cf l[i]) (.fact fun w hw=>had ▸ hw.1) (by simp) (a8 hz hlt') (hz _) ?_)
   conv=>whnf
   repeat (refine aa.of ?_;conv=>whnf)
   refine aw.val (hf _ (List.getElem_mem hlt')) (fun w hw=>hw.2) (fun v D hv=>?_)
   generalize hq:p l[i]=q at hv
   subst hv
   cases q
   · conv=>whnf
     repeat (refine aa.of ?_;conv=>whnf)
     refine⟨i+1,⟨⟨hlt',fun j hj h=>?_⟩,by dsimp only;omega⟩,?_,?_,ax.refl _⟩
     · rcases Nat.lt_or_eq_of_le (Nat.lt_succ_iff.1 h) with h5 | h5
       · exact hall j hj h5
       · subst h5
         exact hq
     · conv=>whnf
       refine⟨?_,rfl⟩
       repeat (first | exact au.nil | refine au.any ?_ | refine au.cons ?_ | refine au.eq (by rw[wrap_i64 (by omega)];rfl) ?_)
     · conv=>whnf
       exact trivial
   · conv=>whnf
     repeat (refine aa.of ?_;conv=>whnf)
     refine⟨_,ax.refl _,?_⟩
     have:l.findIdx? p=some i:=by
      rw[List.findIdx?_eq_some_iff_getElem]
      exact⟨hlt',hq,fun j hj=>by simpa using hall j (by omega) hj⟩
     rw[this]
     rfl
 · have hie:i=l.length:=by
    simp only[ao,decide_eq_false_iff_not] at hlt
    omega
   subst hie
   conv=>whnf
   repeat (refine aa.of ?_;conv=>whnf)
   refine⟨_,ax.refl _,?_⟩
   have:l.findIdx? p=none:=by
    rw[List.findIdx?_eq_none_iff]
    intro x hx
    obtain⟨j,hj,rfl⟩:=List.getElem_of_mem hx
    simpa using hall j hj hj
   rw[this]
   rfl
theorem Ah {α:Type} (cf:α→List Value) (hz : ∀ x,(cf x).length=3) (f:FuncId) (Pre:World→Prop) (p:α→Bool) (u0:Value) (l:List α) (h:Hd) (hh:h.Ok l.length) (hl:l.length≤140737488355328) (hf : ∀ e∈l,af Tryz.prog f [.agg ⟨cf e⟩,u0] Pre (fun v F=>v = .bool (p e))) :
 af Tryz.prog 136 [h.v l.length,.func (.func f) #[] #[u0]] (fun w=>ai w h.a (l.flatMap cf)∧Pre w) (fun v F=>v = .bool (l.any p)):=by
 have hi:=Bc cf hz f Pre p u0 l h hh hl hf
 have hv:=dT l p
 generalize ek (l.findIdx? p)=j at *
 refine af.aG ae Tryz.func136 rfl (by decide) (n:=Tryz.f136.ntmps - 2) rfl rfl fun w0 av=>?_
 conv=>whnf
 repeat (refine aa.of ?_;conv=>whnf)
 refine aw.val hi (fun w hw=>hw) (fun v D hv=>?_)
 subst hv
 conv=>whnf
 repeat (refine aa.of ?_;conv=>whnf)
 exact⟨_,ax.refl _,by rw[← hv,aD]⟩
theorem A1 {α:Type} (cf:α→List Value) (hz : ∀ x,(cf x).length=6) (f:FuncId) (Pre:World→Prop) (p:α→Bool) (l:List α) (h:Hd) (hh:h.Ok l.length) (hl:l.length≤140737488355328) (hf : ∀ e∈l,af Tryz.prog f [.agg ⟨cf e⟩] Pre (fun v F=>v = .bool (p e))) :
 af Tryz.prog 213 [h.v l.length,.func (.func f) #[] #[]] (fun w=>ai w h.a (l.flatMap cf)∧Pre w) (fun v F=>v = .int .i64 (ek (l.findIdx? p))):=by
 refine af.aG ae Tryz.func213 rfl (by decide) (n:=Tryz.f213.ntmps - 2) rfl rfl fun w0 av=>?_
 conv=>whnf
 refine az.loop ae (ι:=Nat) ([5]++List.range' 8 11) (fun x=>x≤l.length∧∀ j (hj:j<l.length),j<x→p l[j]=false)
  (fun x=>[(8,.v (.int .i64 (x:Int)))]) (fun _=>[]) (fun _=>⟨fun w=>ai w h.a (l.flatMap cf)∧Pre w,[]⟩)
  (fun x=>l.length - x) 0 ⟨Nat.zero_le _,fun j hj h=>by omega⟩ ?_ rfl (ax.refl _) fun i hi=>?_
 · conv=>whnf
   repeat (first | exact au.nil | refine au.any ?_ | refine au.cons ?_)
 obtain⟨hi,hall⟩:=hi
 conv=>whnf
 refine bF.split (fun hlt=>?_) (fun hlt=>?_)
 · have hlt':i<l.length:=by
    simp only[ao,decide_eq_true_eq] at hlt
    omega
   conv=>whnf
   repeat (refine aa.of ?_;conv=>whnf)
   refine ar.aj (ak.index ae (t:=71) rfl rfl rfl (by omega) (by omega) hh.nil fun ad had=>?_)
   conv=>whnf
   repeat (refine aa.of ?_;conv=>whnf)
   refine ar.aj (ak.aQ ae (t:=222) rfl rfl (ad:=ad) (k:=i*6) (L:=l.flatMap cf) (m:=cf l[i]) (.fact fun w hw=>had ▸ hw.1) (by simp) (a8 hz hlt') (hz _) ?_)
   conv=>whnf
   repeat (refine aa.of ?_;conv=>whnf)
   refine aw.val (hf _ (List.getElem_mem hlt')) (fun w hw=>hw.2) (fun v D hv=>?_)
   generalize hq:p l[i]=q at hv
   subst hv
   cases q
   · conv=>whnf
     repeat (refine aa.of ?_;conv=>whnf)
     refine⟨i+1,⟨⟨hlt',fun j hj h=>?_⟩,by dsimp only;omega⟩,?_,?_,ax.refl _⟩
     · rcases Nat.lt_or_eq_of_le (Nat.lt_succ_iff.1 h) with h5 | h5
       · exact hall j hj h5
       · subst h5
         exact hq
     · conv=>whnf
       refine⟨?_,rfl⟩
       repeat (first | exact au.nil | refine au.any ?_ | refine au.cons ?_ | refine au.eq (by rw[wrap_i64 (by omega)];rfl) ?_)
     · conv=>whnf
       exact trivial
   · conv=>whnf
     repeat (refine aa.of ?_;conv=>whnf)
     refine⟨_,ax.refl _,?_⟩
     have:l.findIdx? p=some i:=by
      rw[List.findIdx?_eq_some_iff_getElem]
      exact⟨hlt',hq,fun j hj=>by simpa using hall j (by omega) hj⟩
     rw[this]
     rfl
 · have hie:i=l.length:=by
    simp only[ao,decide_eq_false_iff_not] at hlt
    omega
   subst hie
   conv=>whnf
   repeat (refine aa.of ?_;conv=>whnf)
   refine⟨_,ax.refl _,?_⟩
   have:l.findIdx? p=none:=by
    rw[List.findIdx?_eq_none_iff]
    intro x hx
    obtain⟨j,hj,rfl⟩:=List.getElem_of_mem hx
    simpa using hall j hj hj
   rw[this]
   rfl
theorem AP {α:Type} (cf:α→List Value) (hz : ∀ x,(cf x).length=6) (f:FuncId) (Pre:World→Prop) (p:α→Bool) (l:List α) (h:Hd) (hh:h.Ok l.length) (hl:l.length≤140737488355328) (hf : ∀ e∈l,af Tryz.prog f [.agg ⟨cf e⟩] Pre (fun v F=>v = .bool (p e))) :
 af Tryz.prog 137 [h.v l.length,.func (.func f) #[] #[]] (fun w=>ai w h.a (l.flatMap cf)∧Pre w) (fun v F=>v = .bool (l.any p)):=by
 have hi:=A1 cf hz f Pre p l h hh hl hf
 have hv:=dT l p
 generalize ek (l.findIdx? p)=j at *
 refine af.aG ae Tryz.func137 rfl (by decide) (n:=Tryz.f137.ntmps - 2) rfl rfl fun w0 av=>?_
 conv=>whnf
 repeat (refine aa.of ?_;conv=>whnf)
 refine aw.val hi (fun w hw=>hw) (fun v D hv=>?_)
 subst hv
 conv=>whnf
 repeat (refine aa.of ?_;conv=>whnf)
 exact⟨_,ax.refl _,by rw[← hv,aD]⟩
theorem xD (C:List Value) (s:bW) (hC:dV C s) (b:Nat) (x:Ti):af Tryz.prog 134 [.agg ⟨cu x⟩,.pointer (some ⟨b,0,none⟩)]
 (fun w=>ai w (some ⟨b,0,none⟩) C) (fun v F=>v = .bool (eW x.due s.now)):=by
 refine af.aG ae Tryz.func134 rfl (by decide) (n:=Tryz.f134.ntmps - 2) rfl rfl fun w0 av=>?_
 conv=>whnf
 repeat (refine aa.of ?_;conv=>whnf)
 intro b1
 conv=>whnf
 repeat (refine aa.of ?_;conv=>whnf)
 refine ar.aj (ak.aH ae rfl rfl (ad:=⟨b,0,none⟩) (k:=365) (L:=C) (v:=.int .i64 s.now) (.fact fun w hw=>hw) (fun _=>rfl) (cellOf hC.ck (j:=0) (by decide) rfl) ?_)
 conv=>whnf
 repeat (refine aa.of ?_;conv=>whnf)
 exact⟨_,ax.refl _,rfl⟩
def d_ (x:Acc):Bool:=fI x.frame 0||(dL x.frame 96||(fI x.frm 0||(fI x.len 1||(gY x.frm 128||gY x.len (IntKind.i64.wrap (128 - x.frm))))))
theorem xA (x:Acc):af Tryz.prog 135 [.agg ⟨rF x⟩] (fun _=>True) (fun v F=>v = .bool (d_ x)):=by
 unfold d_
 refine af.aG ae Tryz.func135 rfl (by decide) (n:=Tryz.f135.ntmps - 1) rfl rfl fun w0 av=>?_
 conv=>whnf
 repeat (refine aa.of ?_;conv=>whnf)
 intro b1
 conv=>whnf
 repeat (refine aa.of ?_;conv=>whnf)
 repeat' (first
  | (refine cj.mk ?_ ?_;(focus (first | exact ax.refl _ | exact ax.left _ _ | exact ax.of_le ⟨List.sublist_append_left _ _,fun w h=>h⟩ | exact ax.of_le ⟨List.Sublist.refl _,fun w h=>h.1⟩));conv=>whnf))
 all_goals refine⟨_,ax.refl _,?_⟩
 all_goals first | rfl | (congr 1;simp[Bool.or_assoc];done)
def lA (s:bW):Bool:=aR s.lk.now s.now&&(!(s.ti.l.any fun t=>eW t.due s.now) && !(s.ac.l.any d_))
theorem x6 (C:List Value) (s:bW) (hC:dV C s) (ho:s.Ok):af Tryz.prog 74 [.agg ⟨C⟩] s.Rows (fun v F=>v = .bool (lA s)):=by
 have hb : ∀ b:Nat,_:=fun b=>Ah cu (fun _=>rfl) 134 (fun w=>ai w (some ⟨b,0,none⟩) C) (fun x=>eW x.due s.now) (.pointer (some ⟨b,0,none⟩)) s.ti.l s.ti.h ho.ti.h ho.ti.le (fun e _=>xD C s hC b e)
 have ha:=AP rF (fun _=>rfl) 135 (fun _=>True) d_ s.ac.l s.ac.h ho.ac.h ho.ac.le (fun e _=>xA e)
 unfold lA
 generalize (s.ti.l.any fun t=>eW t.due s.now)=q1 at *
 generalize s.ac.l.any d_=q2 at *
 refine af.aG ae Tryz.func74 rfl (by decide) (n:=Tryz.f74.ntmps - 1) rfl rfl fun w0 av=>?_
 conv=>whnf
 repeat (refine aa.of ?_;conv=>whnf)
 refine ar.bQ fun br=>?_
 conv=>whnf
 repeat (refine aa.of ?_;conv=>whnf)
 repeat' (first
  | (refine ar.aj (ak.aH ae rfl rfl (ad:=⟨br,0,none⟩) (k:=323) (L:=C) (v:=.int .i64 s.lk.now) (aK.row (by simp[Value.cells])) (fun _=>rfl) (cellOf hC.lk (j:=1) (by decide) rfl) ?_);conv=>whnf)
  | (refine ar.aj (ak.aH ae rfl rfl (ad:=⟨br,0,none⟩) (k:=365) (L:=C) (v:=.int .i64 s.now) (aK.row (by simp[Value.cells])) (fun _=>rfl) (cellOf hC.ck (j:=0) (by decide) rfl) ?_);conv=>whnf)
  | (refine ar.aj (ak.aH ae rfl rfl (ad:=⟨br,0,none⟩) (k:=272) (L:=C) (v:=s.ti.v) (aK.row (by simp[Value.cells])) (fun _=>rfl) hC.ti ?_);conv=>whnf)
  | (refine ar.aj (ak.aH ae rfl rfl (ad:=⟨br,0,none⟩) (k:=374) (L:=C) (v:=s.ac.v) (aK.row (by simp[Value.cells])) (fun _=>rfl) hC.ac ?_);conv=>whnf)
  | (refine aw.look (hb br) ((Loc.row _ _).and (Loc.row _ _)) (fun w hst=>⟨hst.now.ti,aK.row (b:=br) (C:=C) (by simp[Value.cells]) w hst⟩) ?_;conv=>whnf)
  | (refine aw.val ha (fun w hw=>⟨hw.ac,trivial⟩) (fun v D hv=>?_);subst hv;conv=>whnf)
  | (split<;>conv=>whnf))
 all_goals refine⟨_,ax.refl _,?_⟩
 all_goals first | rfl | (simp only[*,if_true,if_false,cond_true,cond_false,Bool.false_eq_true,Bool.and_true,Bool.true_and,Bool.and_false,Bool.false_and,Bool.or_true,Bool.true_or,Bool.or_false,Bool.false_or];done) | (simp_all;done)
theorem xR (x:Cp) (b o:Nat) (i:Int):af Tryz.prog 122 [.agg ⟨bx x⟩,.pointer (some ⟨b,o,none⟩)] (fun w=>ai w (some ⟨b,o,none⟩) [.int .i64 i]) (fun v F=>v = .bool (aR x.owner i)):=by
 refine af.aG ae Tryz.func122 rfl (by decide) (n:=Tryz.f122.ntmps - 2) rfl rfl fun w0 av=>?_
 conv=>whnf
 repeat (refine aa.of ?_;conv=>whnf)
 intro b1
 conv=>whnf
 repeat (refine aa.of ?_;conv=>whnf)
 refine ar.aj (ak.aH ae rfl rfl (ad:=⟨b,o,none⟩) (k:=0) (L:=[.int .i64 i]) (v:=.int .i64 i) (.fact fun w hw=>hw) (fun _=>rfl) rfl ?_)
 conv=>whnf
 repeat (refine aa.of ?_;conv=>whnf)
 exact⟨_,ax.refl _,rfl⟩
def jk:List Int:=[3,4,5,10]
def kV (s:bW) (i:Nat):Bool:=if lS s.T i then jk.all (fun to=>dj s.cp.l (i:Int) ⟨1,to,1⟩) else !(s.cp.l.any fun c=>aR c.owner (i:Int))
def t_ (s:bW):Bool:=allI 16 fun k=>kV s (16+k)
theorem oZ {s:bW} (h : ∀ j,16≤j→j<32→kV s j=true):t_ s=true:=aV fun j hj=>h _ (by omega) (by omega)
theorem gJ {s:bW} {i:Nat} (h1:16≤i) (h2:i<32) (h:kV s i=false):t_ s=false:=aJ (j:=i - 16) (by omega) (by rw[show 16+(i - 16)=i from by omega];exact h)
theorem tw (C:List Value) (s:bW) (hC:dV C s) (ho:s.Ok):af Tryz.prog 65 [.agg ⟨C⟩] s.Rows (fun v F=>v = .bool (t_ s)):=by
 refine af.aG ae Tryz.func65 rfl (by decide) (n:=Tryz.f65.ntmps - 1) rfl rfl fun w0 av=>?_
 conv=>whnf
 repeat (refine aa.of ?_;conv=>whnf)
 refine ar.bQ fun br=>?_
 conv=>whnf
 repeat (refine aa.of ?_;conv=>whnf)
 intro b3
 conv=>whnf
 repeat (refine aa.of ?_;conv=>whnf)
 refine az.Df ae (ι:=Nat) (bs0:=[]) (List.range' 3 33) (fun x=>16≤x∧x≤32∧∀ j,16≤j→j<x→kV s j=true)
  (fun x=>[(3,.p 0 0)]) (fun _=>[]) (fun x=>[.int .i64 (x:Int)]) (fun _=>⟨s.Rows,[(br,Row.c C)]⟩)
  (fun x=>32 - x) 16 ⟨Nat.le_refl _,by omega,fun j h=>by omega⟩ ?_ rfl (ax.of_le ⟨by simp[Value.cells],fun w hw=>hw⟩) fun i hi b o=>?_
 · conv=>whnf
   repeat (first | exact au.nil | refine au.any ?_ | refine au.cons ?_)
 obtain⟨hi1,hi,hall⟩:=hi
 conv=>whnf
 repeat (refine aa.of ?_;conv=>whnf)
 refine bF.split (fun hlt=>?_) (fun hlt=>?_)
 · have hlt':i<32:=by
    simp[ao] at hlt
    omega
   have h2:=gz C s.T hC.y9 i hlt'
   have hok:kV s i=(if lS s.T i then jk.all (fun to=>dj s.cp.l (i:Int) ⟨1,to,1⟩) else !(s.cp.l.any fun c=>aR c.owner (i:Int))):=rfl
   have hnext:kV s i=true→∀ j,16≤j→j<i+1→kV s j=true:=fun hs j hj1 hj=>by
    rcases Nat.lt_or_eq_of_le (Nat.lt_succ_iff.1 hj) with h5 | h5
    · exact hall j hj1 h5
    · exact h5 ▸ hs
   rw[show fw (s.T i).kind 0=lS s.T i from rfl] at h2
   generalize lS s.T i=q1 at *
   conv=>whnf
   repeat (refine aa.of ?_;conv=>whnf)
   refine ar.aj (ak.aQ ae rfl rfl (ad:=⟨br,0,none⟩) (k:=0) (L:=C) (m:=C) (aK.row (by simp[Value.cells])) rfl (by rw[List.drop_zero];exact List.take_of_length_le (by rw[hC.len];exact Nat.le_refl _)) hC.len ?_)
   conv=>whnf
   repeat (refine aa.of ?_;conv=>whnf)
   refine aw.val h2 (fun w hw=>trivial) (fun v D hv=>?_)
   subst hv
   cases q1
   · have hb:=zh bx (fun _=>rfl) 122 (fun w=>ai w (some ⟨b,o,none⟩) [.int .i64 (i:Int)]) (fun x=>aR x.owner (i:Int)) (.pointer (some ⟨b,o,none⟩)) s.cp.l s.cp.h ho.cp.h ho.cp.le (fun e _=>xR e b o i)
     generalize (s.cp.l.any fun x=>aR x.owner (i:Int))=q2 at *
     conv=>whnf
     repeat (refine aa.of ?_;conv=>whnf)
     refine ar.aj (ak.aH ae rfl rfl (ad:=⟨br,0,none⟩) (k:=270) (L:=C) (v:=s.cp.v) (aK.row (by simp[Value.cells])) (fun _=>rfl) (cellOf hC.ca (j:=1) (by decide) rfl) ?_)
     conv=>whnf
     repeat (refine aa.of ?_;conv=>whnf)
     refine aw.look hb ((Loc.row _ _).and (Loc.row _ _)) (fun w hst=>⟨hst.now.cp,aK.box 0 rfl (by simp) rfl w hst⟩) ?_
     cases q2
     · conv=>whnf
       repeat (refine aa.of ?_;conv=>whnf)
       intro b5
       conv=>whnf
       repeat (refine aa.of ?_;conv=>whnf)
       refine⟨i+1,⟨⟨by omega,hlt',hnext (by rw[hok];rfl)⟩,by dsimp only;omega⟩,1,⟨by simp,by simp,?_⟩,?_,?_,ax.refl _⟩
       · show[Value.int .i64 _] = [Value.int .i64 _]
         rw[wrap_i64 (by omega)]
         rfl
       · conv=>whnf
         repeat (first | exact au.nil | refine au.any ?_ | refine au.cons ?_)
       · conv=>whnf
         exact trivial
     · conv=>whnf
       repeat (refine aa.of ?_;conv=>whnf)
       exact⟨_,ax.refl _,by rw[gJ hi1 hlt' (by rw[hok];rfl)]⟩
   · conv=>whnf
     repeat (refine aa.of ?_;conv=>whnf)
     refine ar.build ae (t:=38) rfl rfl rfl (jk.map bH) rfl rfl (by intro v hv;simp[jk,bH] at hv;rcases hv with rfl | rfl | rfl | rfl<;>rfl) (by decide) fun b5=>?_
     conv=>whnf
     repeat (refine aa.of ?_;conv=>whnf)
     refine az.loop ae (ι:=Nat) (5::List.range' 22 14) (fun x=>x≤4∧∀ j,j<x→dj s.cp.l (i:Int) ⟨1,jk[j]!,1⟩=true)
      (fun x=>[(22,.v (.int .i64 (x:Int)))]) (fun _=>[[.int .i64 (i:Int)]]) (fun _=>⟨s.Rows,[(br,Row.c C),(b5,Row.c (jk.map bH))]⟩)
      (fun x=>4 - x) 0 ⟨Nat.zero_le _,fun j h=>by omega⟩ ?_ rfl (ax.of_le ⟨List.Sublist.refl _,fun w hw=>hw⟩) fun k hk=>?_
     · conv=>whnf
       repeat (first | exact au.nil | refine au.any ?_ | refine au.cons ?_)
     obtain⟨hk,hallk⟩:=hk
     conv=>whnf
     repeat (refine aa.of ?_;conv=>whnf)
     refine bF.split (fun hlt2=>?_) (fun hlt2=>?_)
     · have hk':k<4:=by
        simp[ao] at hlt2
        omega
       have h3:=k_ s.nx s.cp.l s.cp.h ho.cp.h ho.cp.le (i:Int) ⟨1,jk[k]!,1⟩
       obtain⟨q3,hq3⟩ : ∃ q,dj s.cp.l (i:Int) ⟨1,jk[k]!,1⟩=q:=⟨_,rfl⟩
       rw[hq3] at h3
       obtain⟨to,hto⟩ : ∃ x,jk[k]! = x:=⟨_,rfl⟩
       have hget:(jk.map bH)[k]? = some (.int .i64 to):=by
        rw[List.getElem?_map,List.getElem?_eq_getElem (by simpa [jk] using hk'),← hto,bn (by simpa [jk] using hk')]
        rfl
       rw[hto] at h3
       conv=>whnf
       repeat (refine aa.of ?_;conv=>whnf)
       refine ar.aj (ak.index ae (t:=38) rfl rfl rfl (by omega) (by omega) (by simp) fun ad had=>?_)
       conv=>whnf
       repeat (refine aa.of ?_;conv=>whnf)
       refine ar.aj (ak.aH ae rfl rfl (ad:=⟨b5,0,none⟩) (k:=k) (L:=jk.map bH) (v:=.int .i64 to) (aK.row (by simp[Value.cells])) (fun _=>by cases had;simp) hget ?_)
       conv=>whnf
       repeat (refine aa.of ?_;conv=>whnf)
       refine ar.aj (ak.aQ ae rfl rfl (ad:=⟨br,0,none⟩) (k:=269) (L:=C) (m:=[.int .i64 s.nx,s.cp.v]) (aK.row (by simp[Value.cells])) rfl hC.ca rfl ?_)
       conv=>whnf
       repeat (refine aa.of ?_;conv=>whnf)
       refine aw.val h3 (fun w hw=>hw.cp) (fun v D hv=>?_)
       subst hv
       cases q3
       · conv=>whnf
         repeat (refine aa.of ?_;conv=>whnf)
         exact⟨_,ax.refl _,by rw[gJ hi1 hlt' (by
          rw[hok,if_pos rfl,List.all_eq_false]
          exact⟨jk[k]!,by rw[bn (by simpa [jk] using hk')];exact List.getElem_mem _,by rw[hq3];decide⟩)]⟩
       · conv=>whnf
         repeat (refine aa.of ?_;conv=>whnf)
         refine⟨k+1,⟨⟨hk',fun j hj=>?_⟩,by dsimp only;omega⟩,?_,?_,ax.refl _⟩
         · rcases Nat.lt_or_eq_of_le (Nat.lt_succ_iff.1 hj) with h5 | h5
           · exact hallk j h5
           · exact h5 ▸ hq3
         · conv=>whnf
           refine⟨?_,rfl⟩
           repeat (first | exact au.nil | refine au.any ?_ | refine au.cons ?_ | refine au.eq (by rw[wrap_i64 (by omega)];rfl) ?_)
         · conv=>whnf
           exact⟨⟨rfl,rfl⟩,trivial⟩
     · have hke:k=4:=by
        simp[ao] at hlt2
        omega
       subst hke
       have hr:kV s i=true:=by
        rw[hok,if_pos rfl,List.all_eq_true]
        intro x hx
        obtain⟨j,hj,rfl⟩:=List.getElem_of_mem hx
        have:=hallk j (by simpa [jk] using hj)
        rwa [bn hj] at this
       conv=>whnf
       repeat (refine aa.of ?_;conv=>whnf)
       intro b6
       conv=>whnf
       repeat (refine aa.of ?_;conv=>whnf)
       refine⟨i+1,⟨⟨by omega,hlt',hnext hr⟩,by dsimp only;omega⟩,1,⟨by simp,by simp,?_⟩,?_,?_,ax.of_le ⟨by simp[Value.cells],fun w hw=>hw⟩⟩
       · show[Value.int .i64 _] = [Value.int .i64 _]
         rw[wrap_i64 (by omega)]
         rfl
       · conv=>whnf
         repeat (first | exact au.nil | refine au.any ?_ | refine au.cons ?_)
       · conv=>whnf
         exact trivial
 · have hie:i=32:=by
    simp[ao] at hlt
    omega
   subst hie
   conv=>whnf
   repeat (refine aa.of ?_;conv=>whnf)
   exact⟨_,ax.refl _,by rw[oZ hall]⟩
end Go.Proofs.YtlnhdpjnlffaoaaGreatDoor
namespace Go.Proofs
open Go.Shelf
def Tryz.tG:Go.Shelf.Ren:=⟨fun | 189=>205 | 125=>239 | 257=>238 | 128=>255 | 129=>256 | 294=>246 | 295=>247 | 296=>248 | 297=>249 | 298=>250 | 299=>251 | 216=>252 | 300=>253 | 301=>254 | 328=>258 | 329=>259 | 330=>260 | 331=>261 | 332=>262 | 215=>244 | 343=>263 | n=>n,fun | 28=>38 | 3=>3 | 46=>360 | 0=>0 | 51=>372 | 53=>374 | 4=>4 | 183=>366 | 182=>365 | 131=>126 | 5=>5 | 9=>9 | 218=>377 | 222=>381 | 228=>383 | 229=>384 | n=>n,fun | n=>n⟩
theorem Tryz.xb:Go.Proofs.Lays.n189 Tryz.prog Tryz.tG:={
 mixed:=by kernel_rfl
 f125:=Tryz.func239.trans (congrArg some (by kernel_rfl))
 f128:=Tryz.func255.trans (congrArg some (by kernel_rfl))
 f129:=Tryz.func256.trans (congrArg some (by kernel_rfl))
 f189:=Tryz.func205.trans (congrArg some (by kernel_rfl))
 f215:=Tryz.func244.trans (congrArg some (by kernel_rfl))
 f216:=Tryz.func252.trans (congrArg some (by kernel_rfl))
 f257:=Tryz.func238.trans (congrArg some (by kernel_rfl))
 f294:=Tryz.func246.trans (congrArg some (by kernel_rfl))
 f295:=Tryz.func247.trans (congrArg some (by kernel_rfl))
 f296:=Tryz.func248.trans (congrArg some (by kernel_rfl))
 f297:=Tryz.func249.trans (congrArg some (by kernel_rfl))
 f298:=Tryz.func250.trans (congrArg some (by kernel_rfl))
 f299:=Tryz.func251.trans (congrArg some (by kernel_rfl))
 f300:=Tryz.func253.trans (congrArg some (by kernel_rfl))
 f301:=Tryz.func254.trans (congrArg some (by kernel_rfl))
 f328:=Tryz.func258.trans (congrArg some (by kernel_rfl))
 f329:=Tryz.func259.trans (congrArg some (by kernel_rfl))
 f330:=Tryz.func260.trans (congrArg some (by kernel_rfl))
 f331:=Tryz.func261.trans (congrArg some (by kernel_rfl))
 f332:=Tryz.func262.trans (congrArg some (by kernel_rfl))
 f343:=Tryz.func263.trans (congrArg some (by kernel_rfl))
 t0:=Tryz.underlying0
 a0:=Tryz.isAgg0
 z0:=Tryz.sizeOf0
 v0:=Tryz.zeroValue0
 t3:=Tryz.underlying3
 a3:=Tryz.isAgg3
 z3:=Tryz.sizeOf3
 v3:=Tryz.zeroValue3
 t4:=Tryz.underlying4
 a4:=Tryz.isAgg4
 z4:=Tryz.sizeOf4
 v4:=Tryz.zeroValue4
 t5:=Tryz.underlying5
 a5:=Tryz.isAgg5
 z5:=Tryz.sizeOf5
 v5:=Tryz.zeroValue5
 t9:=Tryz.underlying9
 a9:=Tryz.isAgg9
 z9:=Tryz.sizeOf9
 v9:=Tryz.zeroValue9
 t28:=Tryz.underlying38
 a28:=Tryz.isAgg38
 z28:=Tryz.sizeOf38
 v28:=Tryz.zeroValue38
 t46:=Tryz.underlying360
 a46:=Tryz.isAgg360
 z46:=Tryz.sizeOf360
 v46:=Tryz.zeroValue360
 t51:=Tryz.underlying372
 a51:=Tryz.isAgg372
 z51:=Tryz.sizeOf372
 v51:=Tryz.zeroValue372
 t53:=Tryz.underlying374
 a53:=Tryz.isAgg374
 z53:=Tryz.sizeOf374
 v53:=Tryz.zeroValue374
 t131:=Tryz.underlying126
 a131:=Tryz.isAgg126
 z131:=Tryz.sizeOf126
 v131:=Tryz.zeroValue126
 t182:=Tryz.underlying365
 a182:=Tryz.isAgg365
 z182:=Tryz.sizeOf365
 v182:=Tryz.zeroValue365
 t183:=Tryz.underlying366
 a183:=Tryz.isAgg366
 z183:=Tryz.sizeOf366
 v183:=Tryz.zeroValue366
 t218:=Tryz.underlying377
 a218:=Tryz.isAgg377
 z218:=Tryz.sizeOf377
 v218:=Tryz.zeroValue377
 t222:=Tryz.underlying381
 a222:=Tryz.isAgg381
 z222:=Tryz.sizeOf381
 v222:=Tryz.zeroValue381
 t228:=Tryz.underlying383
 a228:=Tryz.isAgg383
 z228:=Tryz.sizeOf383
 v228:=Tryz.zeroValue383
 t229:=Tryz.underlying384
 a229:=Tryz.isAgg384
 z229:=Tryz.sizeOf384
 v229:=Tryz.zeroValue384 }
open Go.Sort Go.RowKit in
theorem Tryz.slices_Sort_int (blk off cap:Nat) (zs:List Int) (w:World) (hH:Holds (Value.int .i64) w blk off zs.toArray) (hblk:blk<w.heap.size) (hsz:zs.length<4611686018427387904) :
 Calls Tryz.prog 205 #[.slice (some ⟨blk,off,none⟩) zs.length cap] w fun e w'=>
  e = .returned (.tuple #[])∧∃ n os,w'=grow (putRow (Value.int .i64) (Sort.ahead w n) blk off (zs.mergeSort fun x y=>decide (x≤y)).toArray) os:=Any.slices_Sort_int Tryz.xb blk off cap zs w hH hblk hsz
def Tryz.qB:Go.Shelf.Ren:=⟨fun | 20=>206 | n=>n,fun | 22=>38 | 3=>3 | 4=>4 | 0=>0 | n=>n,fun | n=>n⟩
theorem Tryz.rj:Go.Proofs.Lays2.n20 Tryz.prog Tryz.qB:={
 mixed:=by kernel_rfl
 f20:=Tryz.func206.trans (congrArg some (by kernel_rfl))
 t0:=Tryz.underlying0
 a0:=Tryz.isAgg0
 z0:=Tryz.sizeOf0
 v0:=Tryz.zeroValue0
 t3:=Tryz.underlying3
 a3:=Tryz.isAgg3
 z3:=Tryz.sizeOf3
 v3:=Tryz.zeroValue3
 t4:=Tryz.underlying4
 a4:=Tryz.isAgg4
 z4:=Tryz.sizeOf4
 v4:=Tryz.zeroValue4
 t22:=Tryz.underlying38
 a22:=Tryz.isAgg38
 z22:=Tryz.sizeOf38
 v22:=Tryz.zeroValue38
 i3:=by kernel_rfl }
open Go.RowKit Go.Lib Go.Sort in
theorem Tryz.slices_Compact_int (blk off cap:Nat) (zs:List Int) (w:World) (hH:Holds (Value.int .i64) w blk off zs.toArray) (hsz:zs.length≤9223372036854775807) (hcap:zs.length≤cap) :
 Calls Tryz.prog 206 #[.slice (some ⟨blk,off,none⟩) zs.length cap] w fun e w'=>e = .returned (.slice (some ⟨blk,off,none⟩) (Lib.compact zs).length cap)∧∃ q,w'=putRow (Value.int .i64) (Sort.ahead w q) blk off (Lib.compact zs++List.replicate (zs.length - (Lib.compact zs).length) 0).toArray:=Any.slices_Compact_int Tryz.rj blk off cap zs w hH hsz hcap
open Go.RowKit Go.Lib Go.Sort in
theorem Tryz.slices_Compact_int_empty (a:Option Addr) (cap:Nat) (w:World) :
 Calls Tryz.prog 206 #[.slice a 0 cap] w fun e w'=>e = .returned (.slice a 0 cap)∧w'=w:=Any.slices_Compact_int_empty Tryz.rj a cap w
open Go.RowKit Go.Sort in
theorem Tryz.slices_Sort_int_none (p:Option Addr) (cap:Nat) (w:World) :
 Calls Tryz.prog 205 #[.slice p 0 cap] w fun e w'=>e = .returned (.tuple #[])∧w'=w:=Any.slices_Sort_int_none Tryz.xb p cap w
end Go.Proofs
namespace Go.Proofs.YtlnhdpjnlffaoaaGreatDoor
open Go Go.Sx
set_option maxRecDepth 100000
set_option maxHeartbeats 4000000
set_option linter.unusedVariables false
set_option linter.unusedSimpArgs false
theorem r8 (zs:List Int) (x:Int):x∈Lib.compact zs↔x∈zs:=by
 unfold Lib.compact Lib.compactUpTo
 rw[List.mem_map]
 constructor
 · rintro⟨j,hj,rfl⟩
   have hl:=List.mem_range.1 (List.mem_filter.1 hj).1
   rw[show zs.toArray[j]! = zs[j] from by simp[hl]]
   exact List.getElem_mem hl
 · intro hx
   obtain⟨j,hj,rfl⟩:=List.getElem_of_mem hx
   induction j with
   | zero=>exact⟨0,List.mem_filter.2 ⟨List.mem_range.2 hj,Lib.keeps_lt_one _ _ (by decide)⟩,by simp[hj]⟩
   | succ j ih=>
    by_cases he:zs.toArray[j+1]! = zs.toArray[j]!
    · have hj':j<zs.length:=by omega
      have e:zs[j+1]=zs[j]:=by simpa [hj,hj'] using he
      rw[e]
      exact ih hj' (List.getElem_mem _)
    · exact⟨j+1,List.mem_filter.2 ⟨List.mem_range.2 hj,Lib.keeps_pos he⟩,by simp[hj]⟩
theorem pB (s:List Int) (C:List Value) (hs:s.length≤C.length) :
 Go.Sort.putCells (Value.int .i64) 0 s.toArray C.toArray=(s.map bH++C.drop s.length).toArray:=by
 apply Array.ext_getElem?
 intro k
 unfold Go.Sort.putCells
 rw[Array.getElem?_mapIdx]
 simp only[List.getElem?_toArray,List.size_toArray,Nat.zero_le,true_and,Nat.zero_add,Nat.sub_zero]
 by_cases hk:k<s.length
 · have hkC:k<C.length:=by omega
   rw[List.getElem?_append_left (by simpa using hk),List.getElem?_eq_getElem hkC]
   simp[hk,bH]
 · rw[List.getElem?_append_right (by simpa using Nat.le_of_not_lt hk),List.length_map,List.getElem?_drop,show s.length+(k - s.length)=k by omega]
   cases C[k]? with
   | none=>rfl
   | some x=>simp[hk]
theorem um {f:FuncId} {fn:Func} (hfn:Tryz.prog.funcs[f]? = some fn) (hbody:fn.body.isSome=true) (hname:(fn.name == "runtime.NumGoroutine")=false) {vs:List Value} {v:Value} {b:Nat} {C:List Value} {s:List Int} (hs:s.length≤C.length) (Pre:World→Prop)
 (hcall : ∀ (w:World) (e:TypeId),w.heap[b]? = some (.cells C.toArray e (0,0))→Calls Tryz.prog f vs.toArray w fun r w'=>r = .returned v∧∃ n os,w'=Go.Sort.grow (Go.Sort.putRow (Value.int .i64) (Go.Sort.ahead w n) b 0 s.toArray) os) :
 dh Tryz.prog f vs [(b,Row.c C)] Pre (fun v' F=>v'=v∧F=⟨fun _=>True,[(b,Row.c (s.map bH++C.drop s.length))]⟩):=by
 unfold dh
 refine⟨⟨_,hfn,hbody,hname⟩,fun av w hav hrows hnd hpre=>?_⟩
 obtain⟨⟨e,hb⟩,hnav⟩:=hrows (b,Row.c C) (by simp)
 dsimp only at hb hnav
 have hblk:b<w.heap.size:=bG hb
 refine(hcall w e hb).mono ?_
 rintro r w' ⟨rfl,n,os,hw⟩
 subst hw
 have hnew:(Go.Sort.grow (Go.Sort.putRow (Value.int .i64) (Go.Sort.ahead w n) b 0 s.toArray) os).heap[b]? = some (.cells (s.map bH++C.drop s.length).toArray e (0,0)):=by
  show((w.heap.modify b (Go.Sort.onCells (Go.Sort.putCells (Value.int .i64) 0 s.toArray)))++os)[b]? = _
  rw[Array.getElem?_append_left (by simpa using hblk),Array.getElem?_modify,if_pos rfl,hb]
  simp only[Option.map_some,Go.Sort.onCells]
  rw[pB _ _ hs]
 have hold : ∀ k,k<w.heap.size→k≠b→(Go.Sort.grow (Go.Sort.putRow (Value.int .i64) (Go.Sort.ahead w n) b 0 s.toArray) os).heap[k]? = w.heap[k]?:=fun k hk hne=>by
  show((w.heap.modify b (Go.Sort.onCells (Go.Sort.putCells (Value.int .i64) 0 s.toArray)))++os)[k]? = _
  rw[Array.getElem?_append_left (by simpa using hk),Array.getElem?_modify,if_neg (Ne.symm hne)]
 have hC'l:(s.map bH++C.drop s.length).length=C.length:=by
  rw[List.length_append,List.length_map,List.length_drop]
  omega
 refine⟨_,⟨fun _=>True,[(b,Row.c (s.map bH++C.drop s.length))]⟩,rfl,⟨rfl,rfl,rfl,?_,fun k o ho=>?_⟩,?_,by simp,.pure trivial,rfl,rfl⟩
 · show w.heap.size≤((w.heap.modify b (Go.Sort.onCells (Go.Sort.putCells (Value.int .i64) 0 s.toArray)))++os).size
   simp
 · by_cases hk:k=b
   · subst hk
     rw[hb] at ho
     cases ho
     refine⟨_,hnew,.inr (.inl ⟨_,_,_,_,rfl,rfl,?_,fun i hi=>absurd ⟨_,List.mem_singleton.2 rfl,rfl⟩ hi⟩)⟩
     simpa using hC'l
   · exact⟨o,by rw[hold k (bG ho) hk,ho],.refl _ _⟩
 · intro r hr
   simp at hr
   subst hr
   exact⟨⟨e,hnew⟩,.inr ⟨⟨_,List.mem_singleton.2 rfl,rfl⟩,by simp⟩⟩
theorem lV {n b cap:Nat} {C L:List Value} (hO:cZ 1 n (some ⟨b,0,none⟩) cap C L):C.length=cap∧C.take n=L∧L.length=n:=by
 rcases hO.alt with⟨h,_⟩ | ⟨b',h,h1,h2⟩
 · cases h
 · exact⟨by simpa using h1,by simpa using h2,by simpa using hO.len⟩
theorem yF {w:World} {b:Nat} {C:List Value} {e:TypeId} (hb:w.heap[b]? = some (.cells C.toArray e (0,0))) {l:List Int} (hC:C.take l.length=l.map bH):Go.Sort.Holds (Value.int .i64) w b 0 l.toArray:=by
 intro j hj
 have hj':j<l.length:=by simpa using hj
 have h1:C[j]? = some (bH l[j]):=by
  have h:=congrArg (fun x=>x[j]?) hC
  simp only[List.getElem?_take,hj',if_true,List.getElem?_map,List.getElem?_eq_getElem,Option.map_some] at h
  exact h
 constructor
 · simp only[World.cell?,hb,Nat.zero_add]
   simp[h1,hj',bH]
 · simp[World.frozen?,hb]
theorem vI (b cap:Nat) (C:List Value) (l:List Int) (hO:cZ 1 l.length (some ⟨b,0,none⟩) cap C (l.map bH)) (hl:l.length≤1000000000) (Pre:World→Prop) :
 dh Tryz.prog 205 [.slice (some ⟨b,0,none⟩) l.length cap] [(b,Row.c C)] Pre
  (fun v F=>v = .tuple #[]∧F=⟨fun _=>True,[(b,Row.c ((l.mergeSort fun x y=>decide (x≤y)).map bH++C.drop (l.mergeSort fun x y=>decide (x≤y)).length))]⟩):=by
 obtain⟨h1,h2,h3⟩:=lV hO
 have hfit:=hO.fit
 exact um Tryz.func205 (by decide) (by decide) (by rw[List.length_mergeSort];omega) Pre fun w e hb=>Tryz.slices_Sort_int b 0 cap l w (yF hb h2) (bG hb) (by omega)
theorem vZ (b cap:Nat) (C:List Value) (l:List Int) (hO:cZ 1 l.length (some ⟨b,0,none⟩) cap C (l.map bH)) (hl:l.length≤1000000000) (hc:(Lib.compact l).length≤l.length) (Pre:World→Prop) :
 dh Tryz.prog 206 [.slice (some ⟨b,0,none⟩) l.length cap] [(b,Row.c C)] Pre
  (fun v F=>v = .slice (some ⟨b,0,none⟩) (Lib.compact l).length cap∧F=⟨fun _=>True,[(b,Row.c ((Lib.compact l++List.replicate (l.length - (Lib.compact l).length) 0).map bH++C.drop (Lib.compact l++List.replicate (l.length - (Lib.compact l).length) 0).length))]⟩):=by
 obtain⟨h1,h2,h3⟩:=lV hO
 have hfit:=hO.fit
 refine um Tryz.func206 (by decide) (by decide) (by rw[List.length_append,List.length_replicate];omega) Pre fun w e hb=>(Tryz.slices_Compact_int b 0 cap l w (yF hb h2) (by omega) hfit).mono ?_
 rintro r w' ⟨rfl,q,rfl⟩
 exact⟨rfl,q,#[],by simp[Go.Sort.grow];rfl⟩
theorem jq (l:List Int):(Lib.compact l).length≤l.length:=by
 unfold Lib.compact Lib.compactUpTo
 rw[List.length_map]
 exact Nat.le_trans (List.length_filter_le _ _) (by simp)
theorem j3 {P:Program} {f:FuncId} {fn:Func} (hfn:P.funcs[f]? = some fn) (hb:fn.body.isSome=true) (hnm:(fn.name == "runtime.NumGoroutine")=false) {vs:List Value} {v:Value}
 (h : ∀ w,Calls P f vs.toArray w fun e w'=>e = .returned v∧w'=w):af P f vs (fun w=>True) (fun u F=>u=v):=by
 unfold af
 refine⟨⟨fn,hfn,hb,hnm⟩,fun av w hav hpre=>(h w).mono ?_⟩
 rintro e w' ⟨rfl,rfl⟩
 exact⟨v,⟨fun _=>True,[]⟩,rfl,dD.refl _ _,⟨by simp,by simp,.pure trivial⟩,rfl⟩
def mK (l:List Se):List Int:=Lib.compact ((l.map (·.frame)).mergeSort fun x y=>decide (x≤y))
theorem uR (l:List Se) (x:Int):x∈mK l↔∃ e∈l,e.frame=x:=by
 unfold mK
 rw[r8,(List.mergeSort_perm _ _).mem_iff,List.mem_map]
theorem vq (p:Option Addr) (cap:Nat):af Tryz.prog 205 [.slice p 0 cap] (fun w=>True) (fun v F=>v = .tuple #[]):=
 j3 Tryz.func205 (by decide) (by decide) fun w=>Tryz.slices_Sort_int_none p cap w
theorem vy (p:Option Addr) (cap:Nat):af Tryz.prog 206 [.slice p 0 cap] (fun w=>True) (fun v F=>v = .slice p 0 cap):=
 j3 Tryz.func206 (by decide) (by decide) fun w=>Tryz.slices_Compact_int_empty p cap w
theorem ub (l:List Se) (h:Hd) (hh:h.Ok l.length) (hl:l.length≤1000000) :
 af Tryz.prog 127 [h.v l.length] (fun w=>ai w h.a (l.flatMap bT)) (fun v F=>∃ k:Hd,v=k.v (mK l).length∧k.Ok (mK l).length∧F=⟨fun w=>ai w k.a ((mK l).map bH),[]⟩):=by
 refine af.aG ae Tryz.func127 rfl (by decide) (n:=Tryz.f127.ntmps - 1) rfl rfl fun w0 av=>?_
 conv=>whnf
 repeat (refine aa.of ?_;conv=>whnf)
 refine az.loop ae (ι:=Nat×Option Addr×Nat×List Value) ([3,5]++List.range' 8 12)
  (fun x=>x.1≤l.length∧cZ 1 x.1 x.2.1 x.2.2.1 x.2.2.2 (((l.take x.1).map (·.frame)).map bH))
  (fun x=>[(3,.v (.slice x.2.1 x.1 x.2.2.1)),(8,.v (.int .i64 (x.1:Int)))]) (fun _=>[]) (fun x=>⟨fun w=>ai w h.a (l.flatMap bT),bo x.2.1 x.2.2.2⟩)
  (fun x=>l.length - x.1) (0,none,0,[]) ⟨Nat.zero_le _,cZ.nil 1⟩ ?_ rfl (ax.of_le ⟨by simp[bo],fun w hw=>hw⟩) fun x hx=>?_
 · conv=>whnf
   repeat (first | exact au.nil | refine au.any ?_ | refine au.cons ?_)
 obtain⟨i,a,c,C⟩:=x
 obtain⟨hi,hO⟩:=hx
 dsimp only at hi hO ⊢
 conv=>whnf
 repeat (refine aa.of ?_;conv=>whnf)
 refine bF.split (fun hlt=>?_) (fun hlt=>?_)
 · have hlt':i<l.length:=by
    simp only[ao,decide_eq_true_eq] at hlt
    omega
   conv=>whnf
   repeat (refine aa.of ?_;conv=>whnf)
   refine ar.aj (ak.index ae (t:=92) rfl rfl rfl (by omega) (by omega) hh.nil fun ad had=>?_)
   conv=>whnf
   repeat (refine aa.of ?_;conv=>whnf)
   refine ar.aj (ak.aQ ae rfl rfl (ad:=ad) (k:=i*3) (L:=l.flatMap bT) (m:=bT l[i]) (.fact fun w hw=>had ▸ hw) (by simp) (a8 (cf:=bT) (z:=3) (fun _=>rfl) hlt') rfl ?_)
   conv=>whnf
   repeat (refine aa.of ?_;conv=>whnf)
   intro b1
   conv=>whnf
   repeat (refine aa.of ?_;conv=>whnf)
   refine ar.build ae (t:=38) rfl rfl rfl [.int .i64 l[i].frame] rfl rfl (by simp[Value.cells]) (by decide) fun b5=>?_
   conv=>whnf
   repeat (refine aa.of ?_;conv=>whnf)
   refine ar.bZ (F':=⟨fun w=>ai w h.a (l.flatMap bT),[]++bo a C ++ [(b5,Row.c [.int .i64 l[i].frame])]⟩) (ax.of_le ⟨by simp[Value.cells],fun w hw=>hw⟩) ?_
   refine ar.append ae (t:=38) (xt:=38) rfl rfl rfl rfl rfl rfl (r1:=[]) (r2:=[(b5,Row.c [.int .i64 l[i].frame])]) (M:=[.int .i64 l[i].frame]) hO (aK.row (by simp)) rfl (by simp[a7]) (by omega) (by simp;omega) fun a' c' C' hO'=>?_
   conv=>whnf
   repeat (refine aa.of ?_;conv=>whnf)
   refine⟨(i+1,a',c',C'),⟨⟨hlt',?_⟩,by dsimp only;omega⟩,?_,?_,ax.of_le ⟨by simp,fun w hw=>hw⟩⟩
   · dsimp only
     rw[List.take_succ_eq_append_getElem hlt',List.map_append,List.map_append]
     exact hO'
   · conv=>whnf
     refine⟨?_,rfl⟩
     repeat (first | exact au.nil | refine au.any ?_ | refine au.cons ?_ | refine au.eq (by rw[wrap_i64 (by omega)];rfl) ?_)
   · conv=>whnf
     exact trivial
 · have hie:i=l.length:=by
    simp only[ao,decide_eq_false_iff_not] at hlt
    omega
   subst hie
   rw[List.take_length] at hO
   rcases a with _ | ad
   · have h0:l.length=0:=hO.cJ rfl
     have hl0:l = []:=List.length_eq_zero_iff.1 h0
     rw[h0]
     conv=>whnf
     repeat (refine aa.of ?_;conv=>whnf)
     refine aw.val (vq none c) (fun w hw=>trivial) (fun v D hv=>?_)
     subst hv
     conv=>whnf
     repeat (refine aa.of ?_;conv=>whnf)
     refine aw.val (vy none c) (fun w hw=>trivial) (fun v D hv=>?_)
     subst hv
     conv=>whnf
     repeat (refine aa.of ?_;conv=>whnf)
     have hf:(mK l).length=0:=by
      rw[hl0]
      simp[mK,Lib.compact,Lib.compactUpTo]
     have hf0:mK l = []:=List.length_eq_zero_iff.1 hf
     refine⟨⟨fun w=>True,[]⟩,ax.of_le ⟨List.nil_sublist _,fun w hw=>trivial⟩,⟨none,c⟩,by rw[hf],by rw[hf];exact⟨fun _=>rfl,Nat.zero_le _⟩,?_⟩
     rw[hf0]
     congr 1
     funext w
     exact propext ⟨fun _=>ai.Em,fun _=>trivial⟩
   · obtain⟨b,hb⟩ : ∃ b,some ad=some ⟨b,0,none⟩:=by
      rcases hO.alt with⟨h,_⟩ | ⟨b,h,_⟩
      · cases h
      · exact⟨b,h⟩
     obtain rfl:=Option.some.inj hb
     have hn:l.length=(l.map (·.frame)).length:=by simp
     obtain⟨f,hf⟩ : ∃ f,f=l.map (·.frame):=⟨_,rfl⟩
     have hL:mK l=Lib.compact (f.mergeSort fun x y=>decide (x≤y)):=by rw[hf];rfl
     rw[← hf] at hn hO
     rw[hL]
     have hO1:cZ 1 f.length (some ⟨b,0,none⟩) c C (f.map bH):=hn ▸ hO
     obtain⟨o1,o2,o3⟩:=lV hO1
     have hfit:=hO1.fit
     have hs1:=vI b c C f hO1 (by omega) (fun _=>True)
     obtain⟨g,hg⟩ : ∃ g,f.mergeSort (fun x y=>decide (x≤y))=g:=⟨_,rfl⟩
     have hgl:g.length=f.length:=by rw[← hg,List.length_mergeSort]
     rw[hg] at hs1 ⊢
     have hO2:cZ 1 g.length (some ⟨b,0,none⟩) c (g.map bH++C.drop g.length) (g.map bH):=by
      refine⟨by simp,by omega,.inr ⟨b,rfl,?_,?_⟩⟩
      · rw[List.length_append,List.length_map,List.length_drop]
        omega
      · rw[Nat.mul_one,List.take_append_of_le_length (by simp),List.take_of_length_le (by simp)]
     have hs2:=vZ b c _ g hO2 (by omega) (jq g) (fun _=>True)
     obtain⟨u,hu⟩ : ∃ u,Lib.compact g=u:=⟨_,rfl⟩
     have hul:u.length≤g.length:=by rw[← hu];exact jq g
     rw[hu] at hs2 ⊢
     rw[hn]
     conv=>whnf
     refine aw.bZ (F':=⟨fun w=>ai w h.a (l.flatMap bT),[] ++ [(b,Row.c C)] ++ []⟩) (ax.of_le ⟨by simp[bo],fun w hw=>hw⟩) ?_
     refine aw.rows hs1 (fun w hw=>trivial) (fun v F hv=>?_)
     obtain⟨rfl,rfl⟩:=hv
     rw[← hgl]
     conv=>whnf
     repeat (refine aa.of ?_;conv=>whnf)
     refine aw.bZ (F':=⟨fun w=>True,[] ++ [(b,Row.c (g.map bH++C.drop g.length))] ++ []⟩) (ax.of_le ⟨by simp,fun w hw=>trivial⟩) ?_
     refine aw.rows hs2 (fun w hw=>trivial) (fun v F hv=>?_)
     obtain⟨rfl,rfl⟩:=hv
     conv=>whnf
     repeat (refine aa.of ?_;conv=>whnf)
     refine⟨_,?_,⟨some ⟨b,0,none⟩,c⟩,rfl,⟨(fun e=>by cases e),by dsimp only;omega⟩,rfl⟩
     refine ax.trans (ax.of_le (F':=⟨fun w=>True,[(b,Row.c ((u++List.replicate (g.length - u.length) 0).map bH++(g.map bH++C.drop g.length).drop (u++List.replicate (g.length - u.length) 0).length))]⟩) ⟨by simp,fun w hw=>trivial⟩) (ax.trans ax.share1 (ax.imp fun w hw=>?_))
     have:=hw.2.take u.length
     rw[List.map_append,List.append_assoc,List.take_append_of_le_length (by simp),List.take_of_length_le (by simp)] at this
     exact this
theorem ur (x:nG) (b o:Nat) (f:Int):af Tryz.prog 128 [.agg ⟨aW x⟩,.pointer (some ⟨b,o,none⟩)] (fun w=>ai w (some ⟨b,o,none⟩) [.int .i64 f]) (fun v F=>v = .bool (x.w&&aR x.frame f)):=by
 refine af.aG ae Tryz.func128 rfl (by decide) (n:=Tryz.f128.ntmps - 2) rfl rfl fun w0 av=>?_
 conv=>whnf
 repeat (refine aa.of ?_;conv=>whnf)
 intro b1
 conv=>whnf
 repeat (refine aa.of ?_;conv=>whnf)
 repeat' (first
  | (refine ar.aj (ak.aH ae rfl rfl (ad:=⟨b,o,none⟩) (k:=0) (L:=[.int .i64 f]) (v:=.int .i64 f) (.fact fun w hw=>hw) (fun _=>rfl) rfl ?_);conv=>whnf)
  | (split<;>conv=>whnf))
 all_goals refine⟨_,ax.refl _,?_⟩
 all_goals first | rfl | (simp only[*,if_true,if_false,cond_true,cond_false,Bool.false_eq_true,Bool.and_true,Bool.true_and,Bool.and_false,Bool.false_and,Bool.or_true,Bool.true_or,Bool.or_false,Bool.false_or];done)
def jr (l:List nG) (f:Int):Bool:=l.any fun x=>x.w&&aR x.frame f
def oa (s:bW) (i:Nat):Bool:=(s.sp i).l.all fun e=>!jr s.wi.l e.frame
def jE (s:bW):Bool:=allI 32 (oa s)
theorem zF {s:bW} {i:Nat}:oa s i=true↔∀ x∈mK (s.sp i).l,jr s.wi.l x=false:=by
 unfold oa
 rw[List.all_eq_true]
 constructor
 · intro h x hx
   obtain⟨e,he,rfl⟩:=(uR _ _).1 hx
   simpa using h e he
 · intro h e he
   simpa using h e.frame ((uR _ _).2 ⟨e,he,rfl⟩)
theorem vg (C:List Value) (s:bW) (hC:dV C s) (ho:s.Ok):af Tryz.prog 69 [.agg ⟨C⟩] s.Rows (fun v F=>v = .bool (jE s)):=by
 refine af.aG ae Tryz.func69 rfl (by decide) (n:=Tryz.f69.ntmps - 1) rfl rfl fun w0 av=>?_
 conv=>whnf
 repeat (refine aa.of ?_;conv=>whnf)
 refine ar.bQ fun br=>?_
 conv=>whnf
 repeat (refine aa.of ?_;conv=>whnf)
 refine ar.aj (ak.aQ ae rfl rfl (ad:=⟨br,0,none⟩) (k:=275) (L:=C) (m:=(C.drop 275).take 32) (aK.row (by simp[Value.cells])) rfl rfl (by rw[List.length_take,List.length_drop,hC.len];rfl) ?_)
 conv=>whnf
 repeat (refine aa.of ?_;conv=>whnf)
 refine az.loop ae (ι:=Nat) ([4,6]++List.range' 10 17) (fun x=>x≤32∧∀ j,j<x→oa s j=true)
  (fun x=>[(10,.v (.int .i64 (x:Int)))]) (fun _=>[]) (fun _=>⟨s.Rows,[(br,Row.c C)]⟩)
  (fun x=>32 - x) 0 ⟨Nat.zero_le _,fun j h=>by omega⟩ ?_ rfl (ax.of_le ⟨by simp[Value.cells],fun w hw=>hw⟩) fun i hi=>?_
 · conv=>whnf
   repeat (first | exact au.nil | refine au.any ?_ | refine au.cons ?_)
 obtain⟨hi,hall⟩:=hi
 conv=>whnf
 repeat (refine aa.of ?_;conv=>whnf)
 refine bF.split (fun hlt=>?_) (fun hlt=>?_)
 · have hlt':i<32:=by
    simp[ao] at hlt
    omega
   have h0:=ub (s.sp i).l (s.sp i).h (ho.sp i hlt').h (ho.sl i hlt')
   have hml:(mK (s.sp i).l).length≤1000000:=by
    have h1:=jq (((s.sp i).l.map (·.frame)).mergeSort fun x y=>decide (x≤y))
    rw[List.length_mergeSort,List.length_map] at h1
    have h2:=ho.sl i hlt'
    exact Nat.le_trans h1 h2
   have hmem:=@zF s i
   have hnext:oa s i=true→∀ j,j<i+1→oa s j=true:=fun hs j hj=>by
    rcases Nat.lt_or_eq_of_le (Nat.lt_succ_iff.1 hj) with h5 | h5
    · exact hall j h5
    · exact h5 ▸ hs
   generalize mK (s.sp i).l=m at *
   conv=>whnf
   repeat (refine aa.of ?_;conv=>whnf)
   refine ar.aj (ak.hJ ae (t:=93) rfl rfl rfl rfl rfl (l:=(C.drop 275).take 32) i rfl hlt' (v:=(s.sp i).h.v (s.sp i).l.length) (by rw[List.getElem?_take,if_pos hlt',List.getElem?_drop];exact hC.sp i hlt') ?_)
   conv=>whnf
   repeat (refine aa.of ?_;conv=>whnf)
   refine aw.pure h0 (fun w hw=>hw.sp i hlt') (fun v D hv=>?_)
   obtain⟨k,rfl,hk,rfl⟩:=hv
   conv=>whnf
   repeat (refine aa.of ?_;conv=>whnf)
   refine az.loop ae (ι:=Nat) (6::List.range' 16 10) (fun x=>x≤m.length∧∀ j (hj:j<m.length),j<x→jr s.wi.l m[j]=false)
    (fun x=>[(16,.v (.int .i64 (x:Int)))]) (fun _=>[]) (fun _=>⟨fun w=>s.Rows w∧ai w k.a (m.map bH),[(br,Row.c C)]⟩)
    (fun x=>m.length - x) 0 ⟨Nat.zero_le _,fun j hj h=>by omega⟩ ?_ rfl (ax.of_le ⟨by simp[Fx.and],fun w hw=>hw⟩) fun j hj=>?_
   · conv=>whnf
     repeat (first | exact au.nil | refine au.any ?_ | refine au.cons ?_)
   obtain⟨hj,hallj⟩:=hj
   conv=>whnf
   repeat (refine aa.of ?_;conv=>whnf)
   refine bF.split (fun hlt2=>?_) (fun hlt2=>?_)
   · have hj':j<m.length:=by
      simp only[ao,decide_eq_true_eq] at hlt2
      omega
     have hb : ∀ b:Nat,_:=fun b=>sX aW (fun _=>rfl) 128 (fun w=>ai w (some ⟨b,0,none⟩) [.int .i64 m[j]]) (fun x=>x.w&&aR x.frame m[j]) (.pointer (some ⟨b,0,none⟩)) s.wi.l s.wi.h ho.wi.h ho.wi.le (fun e _=>ur e b 0 m[j])
     obtain⟨q,hq⟩ : ∃ q,jr s.wi.l m[j]=q:=⟨_,rfl⟩
     rw[show(s.wi.l.any fun x=>x.w&&aR x.frame m[j])=q from hq] at hb
     conv=>whnf
     repeat (refine aa.of ?_;conv=>whnf)
     refine ar.aj (ak.index ae (t:=38) rfl rfl rfl (by omega) (by omega) hk.nil fun ad had=>?_)
     conv=>whnf
     repeat (refine aa.of ?_;conv=>whnf)
     refine ar.aj (ak.aH ae rfl rfl (ad:=ad) (k:=j) (L:=m.map bH) (v:=.int .i64 m[j]) (.fact fun w hw=>had ▸ hw.2) (fun _=>by simp) (by rw[List.getElem?_map,List.getElem?_eq_getElem hj'];rfl) ?_)
     conv=>whnf
     repeat (refine aa.of ?_;conv=>whnf)
     intro b6
     conv=>whnf
     repeat (refine aa.of ?_;conv=>whnf)
     refine ar.aj (ak.aH ae rfl rfl (ad:=⟨br,0,none⟩) (k:=307) (L:=C) (v:=s.wi.v) (aK.row (by simp[Value.cells])) (fun _=>rfl) hC.wi ?_)
     conv=>whnf
     repeat (refine aa.of ?_;conv=>whnf)
     refine aw.look (hb b6) ((Loc.row _ _).and (Loc.row _ _)) (fun w hst=>⟨hst.now.1.wi,aK.box 0 rfl (by simp) rfl w hst⟩) ?_
     cases q
     · conv=>whnf
       repeat (refine aa.of ?_;conv=>whnf)
       refine⟨j+1,⟨⟨hj',fun j2 hj2 h2=>?_⟩,by dsimp only;omega⟩,?_,?_,ax.refl _⟩
       · rcases Nat.lt_or_eq_of_le (Nat.lt_succ_iff.1 h2) with h5 | h5
         · exact hallj j2 hj2 h5
         · subst h5
           exact hq
       · conv=>whnf
         refine⟨?_,rfl⟩
         repeat (first | exact au.nil | refine au.any ?_ | refine au.cons ?_ | refine au.eq (by rw[wrap_i64 (by omega)];rfl) ?_)
       · conv=>whnf
         exact trivial
     · conv=>whnf
       repeat (refine aa.of ?_;conv=>whnf)
       refine⟨_,ax.refl _,?_⟩
       unfold jE
       rw[aJ hlt' (Bool.eq_false_iff.2 fun he=>?_)]
       have:=hmem.1 he m[j] (List.getElem_mem hj')
       rw[hq] at this
       cases this
   · have hje:j=m.length:=by
      simp only[ao,decide_eq_false_iff_not] at hlt2
      omega
     subst hje
     have hr:oa s i=true:=hmem.2 fun x hx=>by
      obtain⟨j,hj,rfl⟩:=List.getElem_of_mem hx
      exact hallj j hj hj
     conv=>whnf
     repeat (refine aa.of ?_;conv=>whnf)
     refine⟨i+1,⟨⟨hlt',hnext hr⟩,by dsimp only;omega⟩,?_,?_,ax.of_le ⟨List.Sublist.refl _,fun w hw=>hw.1⟩⟩
     · conv=>whnf
       refine⟨?_,rfl⟩
       repeat (first | exact au.nil | refine au.any ?_ | refine au.cons ?_ | refine au.eq (by rw[wrap_i64 (by omega)];rfl) ?_)
     · conv=>whnf
       exact trivial
 · have hie:i=32:=by
    simp[ao] at hlt
    omega
   subst hie
   conv=>whnf
   repeat (refine aa.of ?_;conv=>whnf)
   exact⟨_,ax.refl _,by unfold jE;rw[aV hall]⟩
theorem xW {C m:List Value} {k j z:Nat} (hj:j+m.length≤z) (hk:k+z≤C.length):laid C (k+j) m=laid C k (laid ((C.drop k).take z) j m):=by
 have hl:((C.drop k).take z).length=z:=by rw[List.length_take,List.length_drop];omega
 have h1:(laid ((C.drop k).take z) j m).length=z:=by rw[kB (by omega),hl]
 apply List.ext_getElem?
 intro n
 rw[ie (by omega),ie (by omega),ie (by omega),h1]
 by_cases h:k≤n∧n<k+z
 · rw[if_pos h]
   by_cases h2:k+j≤n∧n<k+j+m.length
   · rw[if_pos h2,if_pos (by omega)]
     congr 1
     omega
   · rw[if_neg h2,if_neg (by omega),List.getElem?_take,if_pos (by omega),List.getElem?_drop]
     congr 1
     omega
 · rw[if_neg h,if_neg (by omega)]
theorem wb {α:Type} {cf:α→List Value} {z:Nat} (hz : ∀ x,(cf x).length=z) {l:List α} {i:Nat} (x:α) (hi:i<l.length):(l.set i x).flatMap cf=laid (l.flatMap cf) (i*z) (cf x):=by
 have e:l=l.take i++l[i]::l.drop (i+1):=by simp
 have hlen:((l.take i).flatMap cf).length=i*z:=by rw[gX hz,List.length_take,Nat.min_eq_left (by omega)]
 have e2:(l.set i x).flatMap cf=(l.take i).flatMap cf++(cf x++(l.drop (i+1)).flatMap cf):=by
  rw[List.set_eq_take_append_cons_drop,if_pos hi,List.flatMap_append,List.flatMap_cons]
 have e3:l.flatMap cf=(l.take i).flatMap cf++(cf l[i]++(l.drop (i+1)).flatMap cf):=by
  conv=>lhs;rw[e]
  rw[List.flatMap_append,List.flatMap_cons]
 have e5:(l.flatMap cf).drop (i*z+z)=(l.drop (i+1)).flatMap cf:=by
  rw[e3,← hlen,← List.drop_drop,List.drop_left]
  have:z=(cf l[i]).length:=(hz _).symm
  conv=>lhs;rw[this]
  rw[List.drop_left]
 rw[e2]
 unfold laid
 rw[jD hz,hz,e5,List.append_assoc]
theorem aK.rowFrom {w0:World} {R:Nat→Nat→Prop} {av:Nat→Prop} {bs:List (Nat×Nat)} {cs:List (List Value)} {F:Fx} {b:Nat} {C:List Value} (k:Nat) (h:(b,Row.c C)∈F.rs):aK w0 R av bs cs F (some ⟨b,k,none⟩) (C.drop k):=fun w hst=>by
 have:=(aK.row h w hst).drop k
 rw[show(⟨b,0,none⟩:Addr).add k=⟨b,k,none⟩ from by
  unfold Addr.add
  split
  · rename_i h0
    rw[h0]
  · simp] at this
 exact this
structure Lf where
 al:Bool
 ca:Bool
 cl:Bool
 call:Int
instance:Inhabited Lf:=⟨⟨false,false,false,0⟩⟩
def cg (x:Lf):List Value:=[.bool x.al,.bool x.ca,.bool x.cl,.int .i64 x.call]
def qy (l:Lf) (x:En):Option Lf:=
 if l.cl&&fw x.kind 6 then none else
 if aR x.kind 3 then (if l.al then none else some ⟨true,false,false,0⟩) else
 if aR x.kind 6 then (if !l.al then none else some ⟨false,false,false,0⟩) else
 if aR x.kind 1 then (if !l.al||l.ca then none else some ⟨l.al,true,l.cl,x.call⟩) else
 if aR x.kind 2 then (if !l.ca||fw l.call x.call then none else some ⟨l.al,false,l.cl,0⟩) else
 if aR x.kind 4 then (if l.al then some ⟨l.al,l.ca,l.al,l.call⟩ else none) else
 if aR x.kind 5 then (if l.al then some l else none) else some l
def C6 (LL:List Lf) (i:Nat) (b:Nat) (r:Option Lf) (v:Value) (F:Fx):Prop:=match r with
 | some l'=>v = .bool true∧F=⟨fun _=>True,[(b,Row.c ((LL.set i l').flatMap cg))]⟩
 | none=>v = .bool false
theorem zi {LL:List Lf} (hl:LL.length=32) {i:Nat} (hi:i<32) (l:Lf) (j:Nat) (m:List Value) (l':Lf) (hj:j+m.length≤4) (he:laid (cg l) j m=cg l'):laid ((LL.set i l).flatMap cg) (i*4+j) m=(LL.set i l').flatMap cg:=by
 have hlen:((LL.set i l).flatMap cg).length=128:=by rw[gX (z:=4) (fun _=>rfl),List.length_set,hl]
 rw[xW (z:=4) hj (by omega),a8 (cf:=cg) (z:=4) (fun _=>rfl) (i:=i) (by simp;omega),List.getElem_set_self,he,← wb (cf:=cg) (z:=4) (fun _=>rfl) l' (by simp;omega),List.set_set]
theorem tZ (LL:List Lf) (hl:LL.length=32) (i:Nat) (hi:i<32) (x:En) (b:Nat) :
 dh Tryz.prog 133 [.pointer (some ⟨b,i*4,none⟩),.agg ⟨wo x⟩] [(b,Row.c (LL.flatMap cg))] (fun _=>True) (C6 LL i b (qy LL[i]! x)):=by
 have hb:LL[i]! = LL[i]:=bn (by omega)
 have hset:LL.set i LL[i]=LL:=by simp
 have h0:((LL.flatMap cg).drop (i*4))[0]? = some (.bool LL[i]!.al):=by rw[List.getElem?_drop,bY (z:=4) (fun _=>rfl) (by omega) (by decide),hb];rfl
 have h1:((LL.flatMap cg).drop (i*4))[1]? = some (.bool LL[i]!.ca):=by rw[List.getElem?_drop,bY (z:=4) (fun _=>rfl) (by omega) (by decide),hb];rfl
 have h2:((LL.flatMap cg).drop (i*4))[2]? = some (.bool LL[i]!.cl):=by rw[List.getElem?_drop,bY (z:=4) (fun _=>rfl) (by omega) (by decide),hb];rfl
 have h3:((LL.flatMap cg).drop (i*4))[3]? = some (.int .i64 LL[i]!.call):=by rw[List.getElem?_drop,bY (z:=4) (fun _=>rfl) (by omega) (by decide),hb];rfl
 have hp:=@zi LL hl i hi
 rw[← hb] at hset
 obtain⟨⟨al,ca,cl,call⟩,hL⟩ : ∃ l,LL[i]! = l:=⟨_,rfl⟩
 rw[hL] at h0 h1 h2 h3 hset ⊢
 dsimp only at h0 h1 h2 h3
 try clear hb hL
 have hlen:(LL.flatMap cg).length=128:=by rw[gX (z:=4) (fun _=>rfl),hl]
 have hw0 : ∀ l',laid (LL.flatMap cg) (i*4) (cg l')=(LL.set i l').flatMap cg:=fun l'=>(wb (cf:=cg) (z:=4) (fun _=>rfl) l' (by omega)).symm
 have hw2:laid (LL.flatMap cg) (i*4+2) [.bool al]=(LL.set i ⟨al,ca,al,call⟩).flatMap cg:=by
  conv=>lhs;rw[← hset]
  exact hp _ 2 _ _ (by simp) rfl
 have hw13 : ∀ q n,laid (laid (LL.flatMap cg) (i*4+1) [.bool q]) (i*4+3) [.int .i64 n]=(LL.set i ⟨al,q,cl,n⟩).flatMap cg:=fun q n=>by
  conv=>lhs;rw[← hset]
  rw[hp ⟨al,ca,cl,call⟩ 1 [.bool q] ⟨al,q,cl,call⟩ (by simp) rfl]
  exact hp _ 3 _ _ (by simp) rfl
 have hz:((laid (LL.flatMap cg) (i*4+2) [.bool al]).drop (i*4))[0]? = some (.bool al):=by
  rw[hw2,List.getElem?_drop,bY (z:=4) (fun _=>rfl) (by simp;omega) (by decide),List.getElem_set_self]
  rfl
 obtain⟨r,hr⟩ : ∃ r,qy ⟨al,ca,cl,call⟩ x=r:=⟨_,rfl⟩
 rw[hr]
 refine dh.aG ae Tryz.func133 rfl (by decide) (n:=Tryz.f133.ntmps - 2) rfl rfl (by simp) fun w0 av=>?_
 conv=>whnf
 repeat (refine aa.of ?_;conv=>whnf)
 intro b1
 conv=>whnf
 repeat (refine aa.of ?_;conv=>whnf)
 repeat' (first
  | (refine dv.of ?_;conv=>whnf)
  | (refine aa.of ?_;conv=>whnf)
  | (refine az.draw ae mixed rfl rfl ?_;conv=>whnf)
  | (refine ar.aj (ak.aH ae rfl rfl (ad:=⟨b,i*4,none⟩) (k:=0) (L:=(LL.flatMap cg).drop (i*4)) (v:=.bool al) (aK.rowFrom _ (List.Mem.head _)) (fun _=>rfl) h0 ?_);conv=>whnf)
  | (refine ar.aj (ak.aH ae rfl rfl (ad:=⟨b,i*4,none⟩) (k:=1) (L:=(LL.flatMap cg).drop (i*4)) (v:=.bool ca) (aK.rowFrom _ (List.Mem.head _)) (fun _=>rfl) h1 ?_);conv=>whnf)
  | (refine ar.aj (ak.aH ae rfl rfl (ad:=⟨b,i*4,none⟩) (k:=2) (L:=(LL.flatMap cg).drop (i*4)) (v:=.bool cl) (aK.rowFrom _ (List.Mem.head _)) (fun _=>rfl) h2 ?_);conv=>whnf)
  | (refine ar.aj (ak.aH ae rfl rfl (ad:=⟨b,i*4,none⟩) (k:=0) (L:=(laid (LL.flatMap cg) (i*4+2) [.bool al]).drop (i*4)) (v:=.bool al) (aK.rowFrom _ (List.Mem.head _)) (fun _=>rfl) hz ?_);conv=>whnf)
  | (refine ak.aH ae rfl rfl (ad:=⟨b,i*4,none⟩) (k:=1) (L:=(LL.flatMap cg).drop (i*4)) (v:=.bool ca) (aK.rowFrom _ (List.Mem.head _)) (fun _=>rfl) h1 ?_;conv=>whnf)
  | (refine ak.aH ae rfl rfl (ad:=⟨b,i*4,none⟩) (k:=3) (L:=(LL.flatMap cg).drop (i*4)) (v:=.int .i64 call) (aK.rowFrom _ (List.Mem.head _)) (fun _=>rfl) h3 ?_;conv=>whnf)
  | (refine aP.cO ae rfl (r1:=[]) (r2:=[]) (b:=b) (k:=i*4) rfl rfl (by simp[Value.cells,a7]) (by rw[hlen];show i*4+4≤128;omega) ?_;conv=>whnf)
  | (refine aP.cO ae rfl (r1:=[]) (r2:=[]) (b:=b) (k:=i*4+1) rfl rfl (by simp[Value.cells,a7]) (by rw[hlen];show i*4+1+1≤128;omega) ?_;conv=>whnf)
  | (refine aP.cO ae rfl (r1:=[]) (r2:=[]) (b:=b) (k:=i*4+2) rfl rfl (by simp[Value.cells,a7]) (by rw[hlen];show i*4+2+1≤128;omega) ?_;conv=>whnf)
  | (refine aP.cO ae rfl (r1:=[]) (r2:=[]) (b:=b) (k:=i*4+3) rfl rfl (by simp[Value.cells,a7]) (by rw[kB (by rw[hlen];show i*4+1+1≤128;omega),hlen];show i*4+3+1≤128;omega) ?_;conv=>whnf)
  | (refine bF.split (fun h=>?_) (fun h=>?_)<;>conv=>whnf))
 all_goals first
  | (refine⟨_,ax.refl _,?_⟩;(have h9:r=none:=by rw[← hr];unfold qy;simp_all;done);rw[h9];exact rfl)
  | (refine⟨⟨fun _=>True,[(b,Row.c ((LL.set i ⟨al,ca,cl,call⟩).flatMap cg))]⟩,ax.of_le ⟨by rw[hset];exact List.Sublist.refl _,fun _ h=>h⟩,?_⟩;(have h9:r=some ⟨al,ca,cl,call⟩:=by rw[← hr];unfold qy;simp_all;done);rw[h9];exact⟨rfl,rfl⟩)
  | (refine⟨⟨fun _=>True,[(b,Row.c ((LL.set i ⟨true,false,false,0⟩).flatMap cg))]⟩,ax.of_le ⟨by rw[← hw0];exact List.Sublist.refl _,fun _ h=>h⟩,?_⟩;(have h9:r=some ⟨true,false,false,0⟩:=by rw[← hr];unfold qy;simp_all;done);rw[h9];exact⟨rfl,rfl⟩)
  | (refine⟨⟨fun _=>True,[(b,Row.c ((LL.set i ⟨false,false,false,0⟩).flatMap cg))]⟩,ax.of_le ⟨by rw[← hw0];exact List.Sublist.refl _,fun _ h=>h⟩,?_⟩;(have h9:r=some ⟨false,false,false,0⟩:=by rw[← hr];unfold qy;simp_all;done);rw[h9];exact⟨rfl,rfl⟩)
  | (refine⟨⟨fun _=>True,[(b,Row.c ((LL.set i ⟨al,true,cl,x.call⟩).flatMap cg))]⟩,ax.of_le ⟨by rw[← hw13];exact List.Sublist.refl _,fun _ h=>h⟩,?_⟩;(have h9:r=some ⟨al,true,cl,x.call⟩:=by rw[← hr];unfold qy;simp_all;done);rw[h9];exact⟨rfl,rfl⟩)
  | (refine⟨⟨fun _=>True,[(b,Row.c ((LL.set i ⟨al,false,cl,0⟩).flatMap cg))]⟩,ax.of_le ⟨by rw[← hw13];exact List.Sublist.refl _,fun _ h=>h⟩,?_⟩;(have h9:r=some ⟨al,false,cl,0⟩:=by rw[← hr];unfold qy;simp_all;done);rw[h9];exact⟨rfl,rfl⟩)
  | (refine⟨⟨fun _=>True,[(b,Row.c ((LL.set i ⟨al,ca,al,call⟩).flatMap cg))]⟩,ax.of_le ⟨by rw[← hw2];exact List.Sublist.refl _,fun _ h=>h⟩,?_⟩;cases al<;>first | ((have h9:r=none:=by rw[← hr];unfold qy;simp_all;done);rw[h9];exact rfl) | ((have h9:r=some ⟨true,ca,true,call⟩:=by rw[← hr];unfold qy;simp_all;done);rw[h9];exact⟨rfl,rfl⟩))
  | (refine⟨⟨fun _=>True,[(b,Row.c ((LL.set i ⟨al,ca,cl,call⟩).flatMap cg))]⟩,ax.of_le ⟨by rw[hset];exact List.Sublist.refl _,fun _ h=>h⟩,?_⟩;cases al<;>first | ((have h9:r=none:=by rw[← hr];unfold qy;simp_all;done);rw[h9];exact rfl) | ((have h9:r=some ⟨true,ca,cl,call⟩:=by rw[← hr];unfold qy;simp_all;done);rw[h9];exact⟨rfl,rfl⟩))
def e_ (k:Int):Bool:=if aR k 3 then true else if aR k 6 then true else if aR k 1 then true else if aR k 2 then true else if aR k 4 then true else aR k 5
def eK (LL:List Lf) (x:En):Option (List Lf):=if e_ x.kind then (if 16≤x.task∧x.task<32 then (match qy LL[x.task.toNat]! x with | some l=>some (LL.set x.task.toNat l) | none=>none) else none) else some LL
def pa:List En→List Lf→Option (List Lf)
 | [],LL=>some LL
 | x::r,LL=>match eK LL x with
  | none=>none
  | some LL'=>pa r LL'
def u9:List Lf:=(List.replicate 32 ⟨false,false,false,0⟩).set 16 ⟨true,false,false,0⟩
def fy (T:Nat→gU) (l:Lf) (i:Nat):Bool:=!((!(l.al == lS T i))||((!(l.cl == (T i).cls))||((!(l.ca == aR (T i).st 1))||(l.ca&&fw l.call (T i).call))))
def uS (s:bW):Bool:=match pa s.rc.l u9 with
 | none=>false
 | some LL=>allI 16 fun k=>fy s.T LL[16+k]! (16+k)
theorem iP (k:Int):e_ k=true↔k=1∨k=2∨k=3∨k=4∨k=5∨k=6:=by
 unfold e_
 simp only[aA]
 by_cases h3:k=3<;>by_cases h6:k=6<;>by_cases h1:k=1<;>by_cases h2:k=2<;>by_cases h4:k=4<;>simp[*]
theorem tJ (C:List Value) (s:bW) (hC:dV C s) (ho:s.Ok):af Tryz.prog 73 [.agg ⟨C⟩] s.Rows (fun v F=>v = .bool (uS s)):=by
 unfold uS
 obtain⟨R,hR⟩ : ∃ R,pa s.rc.l u9=R:=⟨_,rfl⟩
 rw[hR]
 obtain⟨l,hrl⟩ : ∃ l,s.rc.l=l:=⟨_,rfl⟩
 rw[hrl] at hR
 have hrv:s.rc.v=s.rc.h.v l.length:=by rw[← hrl];rfl
 have hrh:=ho.rc.h
 have hrle:=ho.rc.le
 rw[hrl] at hrh hrle
 have hrow : ∀ w,s.Rows w→ai w s.rc.h.a (l.flatMap wo):=fun w hw=>by
  have:=hw.rc
  unfold Sl.At at this
  rwa [hrl] at this
 refine af.aG ae Tryz.func73 rfl (by decide) (n:=Tryz.f73.ntmps - 1) rfl rfl fun w0 av=>?_
 conv=>whnf
 repeat (refine aa.of ?_;conv=>whnf)
 refine ar.bQ fun br=>?_
 conv=>whnf
 repeat (refine aa.of ?_;conv=>whnf)
 refine ar.cT ae rfl (z:=(List.replicate 32 (⟨false,false,false,0⟩:Lf)).flatMap cg) (by kernel_rfl) fun bl=>?_
 conv=>whnf
 repeat (refine aa.of ?_;conv=>whnf)
 refine ar.aj (ak.bj ae (t:=276) rfl rfl rfl 16 rfl (by decide) rfl ?_)
 conv=>whnf
 repeat (refine aa.of ?_;conv=>whnf)
 refine aP.bZ (F':=⟨s.Rows,[(br,Row.c C)] ++ [(bl,Row.c ((List.replicate 32 (⟨false,false,false,0⟩:Lf)).flatMap cg))] ++ []⟩) (ax.of_le ⟨by simp[Value.cells],fun w hw=>hw⟩) ?_
 refine aP.cO ae rfl (b:=bl) (k:=64) rfl rfl (by simp[Value.cells,a7]) (by rw[gX (z:=4) (fun _=>rfl),List.length_replicate];decide) ?_
 conv=>whnf
 repeat (refine aa.of ?_;conv=>whnf)
 refine ar.aj (ak.aH ae rfl rfl (ad:=⟨br,0,none⟩) (k:=373) (L:=C) (v:=s.rc.h.v l.length) (aK.row (by simp)) (fun _=>rfl) (hrv ▸ hC.rc) ?_)
 conv=>whnf
 repeat (refine aa.of ?_;conv=>whnf)
 have h0:laid ((List.replicate 32 (⟨false,false,false,0⟩:Lf)).flatMap cg) 64 [.bool true]=u9.flatMap cg:=by kernel_rfl
 refine az.loop ae (ι:=Nat×List Lf) ([5]++List.range' 15 26) (fun x=>x.1≤l.length∧x.2.length=32∧pa (l.drop x.1) x.2=R)
  (fun x=>[(15,.v (.int .i64 (x.1:Int)))]) (fun _=>[]) (fun x=>⟨s.Rows,[(br,Row.c C),(bl,Row.c (x.2.flatMap cg))]⟩)
  (fun x=>l.length - x.1) (0,u9) ⟨Nat.zero_le _,rfl,hR⟩ ?_ rfl (ax.of_le ⟨by rw[← h0];exact List.Sublist.refl _,fun w hw=>hw⟩) fun x hx=>?_
 · conv=>whnf
   repeat (first | exact au.nil | refine au.any ?_ | refine au.cons ?_)
 clear h0 hR
 obtain⟨i,LL⟩:=x
 obtain⟨hi,hLL,hinv⟩:=hx
 dsimp only at hi hLL hinv ⊢
 conv=>whnf
 repeat (refine aa.of ?_;conv=>whnf)
 refine bF.split (fun hlt=>?_) (fun hlt=>?_)
 · have hlt':i<l.length:=by
    simp only[ao,decide_eq_true_eq] at hlt
    omega
   rw[List.drop_eq_getElem_cons hlt'] at hinv
   unfold pa at hinv
   obtain⟨x,hx⟩ : ∃ x,l[i]=x:=⟨_,rfl⟩
   rw[hx] at hinv
   have hus:=fK x.task
   conv=>whnf
   repeat (refine aa.of ?_;conv=>whnf)
   refine ar.aj (ak.index ae (t:=70) rfl rfl rfl (by omega) (by omega) hrh.nil fun ad had=>?_)
   conv=>whnf
   repeat (refine aa.of ?_;conv=>whnf)
   refine ar.aj (ak.aQ ae rfl rfl (ad:=ad) (k:=i*8) (L:=l.flatMap wo) (m:=wo x) (.fact fun w hw=>had ▸ hrow w hw) (by simp) (by rw[← hx];exact a8 (cf:=wo) (z:=8) (fun _=>rfl) hlt') rfl ?_)
   conv=>whnf
   repeat (refine aa.of ?_;conv=>whnf)
   intro b5
   conv=>whnf
   repeat (refine aa.of ?_;conv=>whnf)
   by_cases hk:e_ x.kind=true
   · have hst:eK LL x=if 16≤x.task∧x.task<32 then (match qy LL[x.task.toNat]! x with | some l=>some (LL.set x.task.toNat l) | none=>none) else none:=by
      unfold eK
      rw[if_pos hk]
     rw[hst] at hinv
     clear hst
     by_cases ht:16≤x.task∧x.task<32
     · rw[if_pos ht] at hinv
       rw[decide_eq_true ht] at hus
       have hfo:=tZ LL hLL x.task.toNat (by omega) x bl
       obtain⟨r,hr⟩ : ∃ r,qy LL[x.task.toNat]! x=r:=⟨_,rfl⟩
       rw[hr] at hinv hfo
       rcases r with _ | l'
       · have hRn:R=none:=hinv.symm
         rw[hRn]
         repeat' (first
          | (refine az.draw ae mixed rfl rfl ?_;conv=>whnf)
          | (refine aw.val hus (fun w hw=>trivial) (fun v D hv=>?_);subst hv;conv=>whnf)
          | (refine ak.bj ae (t:=276) rfl rfl rfl x.task.toNat (by omega) (by omega) rfl ?_;conv=>whnf)
          | (refine aw.bZ (F':=⟨s.Rows,[(br,Row.c C)] ++ [(bl,Row.c (LL.flatMap cg))] ++ []⟩) (ax.of_le ⟨List.Sublist.refl _,fun w hw=>hw⟩) ?_;rw[show(⟨bl,0,none⟩:Addr).add (x.task.toNat*4)=⟨bl,x.task.toNat*4,none⟩ from by simp[Addr.add];omega];refine aw.rows hfo (fun w hw=>trivial) (fun v F hv=>?_);have hv':v = .bool false:=hv;subst hv';conv=>whnf)
          | (refine bF.split (fun h=>?_) (fun h=>?_)<;>conv=>whnf))
         all_goals first
          | exact⟨_,ax.refl _,rfl⟩
          | (exfalso;unfold e_ at hk;simp_all;done)
       · repeat' (first
          | (refine az.draw ae mixed rfl rfl ?_;conv=>whnf)
          | (refine aw.val hus (fun w hw=>trivial) (fun v D hv=>?_);subst hv;conv=>whnf)
          | (refine ak.bj ae (t:=276) rfl rfl rfl x.task.toNat (by omega) (by omega) rfl ?_;conv=>whnf)
          | (refine aw.bZ (F':=⟨s.Rows,[(br,Row.c C)] ++ [(bl,Row.c (LL.flatMap cg))] ++ []⟩) (ax.of_le ⟨List.Sublist.refl _,fun w hw=>hw⟩) ?_;rw[show(⟨bl,0,none⟩:Addr).add (x.task.toNat*4)=⟨bl,x.task.toNat*4,none⟩ from by simp[Addr.add];omega];refine aw.rows hfo (fun w hw=>trivial) (fun v F hv=>?_);obtain⟨hv1,hv2⟩:=(show v = .bool true∧F=_ from hv);subst hv1;subst hv2;conv=>whnf)
          | (refine bF.split (fun h=>?_) (fun h=>?_)<;>conv=>whnf))
         all_goals first
          | (exfalso;unfold e_ at hk;simp_all;done)
          | (
           refine⟨(i+1,LL.set x.task.toNat l'),⟨⟨hlt',by dsimp only;rw[List.length_set];exact hLL,hinv⟩,by dsimp only;omega⟩,?_,?_,ax.of_le ⟨List.Sublist.refl _,fun w hw=>hw.1⟩⟩;(conv=>whnf);refine⟨?_,rfl⟩;repeat (first | exact au.nil | refine au.any ?_ | refine au.cons ?_ | refine au.eq (by rw[wrap_i64 (by omega)];rfl) ?_)
           (conv=>whnf);exact trivial)
     · rw[if_neg ht] at hinv
       rw[decide_eq_false ht] at hus
       have hRn:R=none:=hinv.symm
       rw[hRn]
       repeat' (first
        | (refine az.draw ae mixed rfl rfl ?_;conv=>whnf)
        | (refine aw.val hus (fun w hw=>trivial) (fun v D hv=>?_);subst hv;conv=>whnf)
        | (refine bF.split (fun h=>?_) (fun h=>?_)<;>conv=>whnf))
       all_goals first
        | exact⟨_,ax.refl _,rfl⟩
        | (exfalso;unfold e_ at hk;simp_all;done)
   · have hst:eK LL x=some LL:=by
      unfold eK
      rw[if_neg hk]
     rw[hst] at hinv
     have hk0:e_ x.kind=false:=by simpa using hk
     clear hk hst
     repeat' (first
      | (refine az.draw ae mixed rfl rfl ?_;exfalso;unfold e_ at hk0;simp_all;done)
      | (refine bF.split (fun h=>?_) (fun h=>?_)<;>conv=>whnf))
     all_goals first
      | (
       refine⟨(i+1,LL),⟨⟨hlt',hLL,hinv⟩,by dsimp only;omega⟩,?_,?_,ax.refl _⟩;(conv=>whnf);refine⟨?_,rfl⟩;repeat (first | exact au.nil | refine au.any ?_ | refine au.cons ?_ | refine au.eq (by rw[wrap_i64 (by omega)];rfl) ?_)
       (conv=>whnf);exact trivial)
 · have hie:i=l.length:=by
    simp only[ao,decide_eq_false_iff_not] at hlt
    omega
   rw[hie,List.drop_length] at hinv
   have hR:R=some LL:=hinv.symm
   rw[hR]
   dsimp only
   clear hinv hlt hie hi hR hrow hrle hrh hrv hrl
   conv=>whnf
   repeat (refine aa.of ?_;conv=>whnf)
   refine az.loop ae (ι:=Nat) ([6,7,8]++List.range' 41 44) (fun x=>x≤16∧∀ j,j<x→fy s.T LL[16+j]! (16+j)=true)
    (fun x=>[(6,.v (.int .i64 ((16+x:Nat):Int)))]) (fun _=>[]) (fun _=>⟨s.Rows,[(br,Row.c C),(bl,Row.c (LL.flatMap cg))]⟩)
    (fun x=>16 - x) 0 ⟨Nat.zero_le _,fun j h=>by omega⟩ ?_ rfl (ax.refl _) fun k hk=>?_
   · conv=>whnf
     repeat (first | exact au.nil | refine au.any ?_ | refine au.cons ?_)
   obtain⟨hk,hall⟩:=hk
   obtain⟨m,hm⟩ : ∃ m,m=16+k:=⟨_,rfl⟩
   rw[← hm]
   conv=>whnf
   repeat (refine aa.of ?_;conv=>whnf)
   refine bF.split (fun hlt=>?_) (fun hlt=>?_)
   · have hlt':m<32:=by
      simp[ao] at hlt
      omega
     have hk':k<16:=by omega
     have h2:=gz C s.T hC.y9 m hlt'
     have hok:fy s.T LL[16+k]! (16+k) = !((!(LL[m]!.al == lS s.T m))||((!(LL[m]!.cl == (s.T m).cls))||((!(LL[m]!.ca == aR (s.T m).st 1))||(LL[m]!.ca&&fw LL[m]!.call (s.T m).call)))):=by rw[← hm];rfl
     have hnext:fy s.T LL[16+k]! (16+k)=true→∀ j,j<k+1→fy s.T LL[16+j]! (16+j)=true:=fun hs j hj=>by
      rcases Nat.lt_or_eq_of_le (Nat.lt_succ_iff.1 hj) with h5 | h5
      · exact hall j h5
      · exact h5 ▸ hs
     have hlf:((LL.flatMap cg).drop (m*4)).take 4=cg LL[m]!:=by
      rw[bn (by omega)]
      exact a8 (cf:=cg) (z:=4) (fun _=>rfl) (by omega)
     have htk:=hC.T m hlt'
     rw[show fw (s.T m).kind 0=lS s.T m from rfl] at h2
     generalize lS s.T m=q1 at *
     generalize LL[m]! = lf at *
     generalize s.T m=t at *
     conv=>whnf
     repeat (refine aa.of ?_;conv=>whnf)
     refine az.draw ae mixed rfl rfl ?_
     conv=>whnf
     repeat' (first
      | (refine And.intro ?_ ?_<;>conv=>whnf)
      | (refine cj.same rfl ?_;conv=>whnf)
      | (intro b7;conv=>whnf)
      | (refine ak.bj ae (t:=276) rfl rfl rfl m (by omega) (by omega) rfl ?_;conv=>whnf)
      | (refine ak.bj ae (t:=78) rfl rfl rfl m (by omega) (by omega) rfl ?_;conv=>whnf)
      | (refine ak.aQ ae rfl rfl (ad:=⟨br,0,none⟩) (k:=m*8) (L:=C) (m:=fL t) (aK.row (by simp)) rfl htk rfl ?_;conv=>whnf)
      | (refine ak.aQ ae rfl rfl (ad:=⟨bl,0,none⟩) (k:=m*4) (L:=LL.flatMap cg) (m:=cg lf) (aK.row (by simp)) rfl hlf rfl ?_;conv=>whnf))
     all_goals
      refine az.draw ae mixed rfl rfl ?_
      conv=>whnf
      repeat' (first
       | (refine dv.of ?_;conv=>whnf)
       | (refine ak.aQ ae rfl rfl (ad:=⟨br,0,none⟩) (k:=0) (L:=C) (m:=C) (aK.row (by simp)) rfl (by rw[List.drop_zero];exact List.take_of_length_le (by rw[hC.len];exact Nat.le_refl _)) hC.len ?_;conv=>whnf)
       | (refine aw.val h2 (fun w hw=>trivial) (fun v D hv=>?_);subst hv;conv=>whnf)
       | (split<;>conv=>whnf))
     all_goals clear hC ho htk hlf h2 hlt
     all_goals first
      | (refine⟨_,ax.refl _,?_⟩;rw[aJ hk' (by rw[hok];clear hnext hall hok;simp_all)];done)
      | (
       refine⟨k+1,⟨⟨hk',hnext (by rw[hok];clear hnext hall hok;simp_all)⟩,by dsimp only;omega⟩,?_,?_,ax.refl _⟩;(conv=>whnf);refine⟨?_,rfl⟩;repeat (first | exact au.nil | refine au.any ?_ | refine au.cons ?_ | refine au.eq (congrArg (fun z=>SV.v (Value.int .i64 z)) (by rw[wrap_i64 (by omega)];omega)) ?_)
       (conv=>whnf);exact trivial)
   · have hke:k=16:=by
      simp[ao] at hlt
      omega
     subst hke
     conv=>whnf
     repeat (refine aa.of ?_;conv=>whnf)
     exact⟨_,ax.refl _,by rw[aV hall]⟩
def aT (s:bW):List Value:=(List.range 32).flatMap (fun i=>fL (s.T i))++((List.range 11).map (fun i=>Value.bool (s.D i))++(s.q.v::s.pr.v :: .int .i64 s.nx::s.cp.v::s.gr.v::s.ti.v::s.qu.v::s.pg.v::((List.range 32).map (fun i=>(s.sp i).v) ++
 (s.wi.v::s.bk.v::(cE s.dc++(rJ s.tr++(gp s.lk++(iz s.se ++ [.int .i64 s.now,s.al.v,.bool (s.M 0),.bool (s.M 1),.bool (s.M 2),.bool (s.M 3),.bool (s.M 4),s.pe.v,s.rc.v,s.ac.v,s.nw.v]))))))))
def dO (x:zY):List Value:=du x.pat :: .int .i64 x.now :: .int .i64 x.sent :: .int .i64 x.first::x.fh.v x.fly.length::x.wh.v x.wait.length::(cE x.co++cE x.ci)
def dZ (x:Be):List Value:=du x.inp :: .int .i64 x.at' :: .int .i64 x.pause::du x.got::du x.out::(cE x.co++cE x.ci)
def jN (s:bW):List Value:=(List.range 32).flatMap (fun i=>fL (s.T i))++((List.range 11).map (fun i=>Value.bool (s.D i))++(s.q.v::s.pr.v :: .int .i64 s.nx::s.cp.v::s.gr.v::s.ti.v::s.qu.v::s.pg.v::((List.range 32).map (fun i=>(s.sp i).v) ++
 (s.wi.v::s.bk.v::(cE s.dc++(rJ s.tr++(dO s.lk++(dZ s.se ++ [.int .i64 s.now,s.al.v,.bool (s.M 0),.bool (s.M 1),.bool (s.M 2),.bool (s.M 3),.bool (s.M 4),s.pe.v,s.rc.v,s.ac.v,s.nw.v]))))))))
def j9 {α:Type} (f:Nat→α) (i:Nat) (x:α):Nat→α:=fun j=>if j=i then x else f j
theorem Cm (s:bW) : ∀ i,i<32→((aT s).drop (i*8)).take 8=fL (s.T i)
 | 0,_=>by kernel_rfl
 | 1,_=>by kernel_rfl
 | 2,_=>by kernel_rfl
 | 3,_=>by kernel_rfl
 | 4,_=>by kernel_rfl
 | 5,_=>by kernel_rfl
 | 6,_=>by kernel_rfl
 | 7,_=>by kernel_rfl
 | 8,_=>by kernel_rfl
 | 9,_=>by kernel_rfl
 | 10,_=>by kernel_rfl
 | 11,_=>by kernel_rfl
 | 12,_=>by kernel_rfl
 | 13,_=>by kernel_rfl
 | 14,_=>by kernel_rfl
 | 15,_=>by kernel_rfl
 | 16,_=>by kernel_rfl
 | 17,_=>by kernel_rfl
 | 18,_=>by kernel_rfl
 | 19,_=>by kernel_rfl
 | 20,_=>by kernel_rfl
 | 21,_=>by kernel_rfl
 | 22,_=>by kernel_rfl
 | 23,_=>by kernel_rfl
 | 24,_=>by kernel_rfl
 | 25,_=>by kernel_rfl
 | 26,_=>by kernel_rfl
 | 27,_=>by kernel_rfl
 | 28,_=>by kernel_rfl
 | 29,_=>by kernel_rfl
 | 30,_=>by kernel_rfl
 | 31,_=>by kernel_rfl
 | i+32,h=>absurd h (by omega)
theorem B3 (s:bW) : ∀ i,i<11→(aT s)[256+i]? = some (.bool (s.D i))
 | 0,_=>by kernel_rfl
 | 1,_=>by kernel_rfl
 | 2,_=>by kernel_rfl
 | 3,_=>by kernel_rfl
 | 4,_=>by kernel_rfl
 | 5,_=>by kernel_rfl
 | 6,_=>by kernel_rfl
 | 7,_=>by kernel_rfl
 | 8,_=>by kernel_rfl
 | 9,_=>by kernel_rfl
 | 10,_=>by kernel_rfl
 | i+11,h=>absurd h (by omega)
theorem w9 (s:bW) : ∀ i,i<32→(aT s)[275+i]? = some (s.sp i).v
 | 0,_=>by kernel_rfl
 | 1,_=>by kernel_rfl
 | 2,_=>by kernel_rfl
 | 3,_=>by kernel_rfl
 | 4,_=>by kernel_rfl
 | 5,_=>by kernel_rfl
 | 6,_=>by kernel_rfl
 | 7,_=>by kernel_rfl
 | 8,_=>by kernel_rfl
 | 9,_=>by kernel_rfl
 | 10,_=>by kernel_rfl
 | 11,_=>by kernel_rfl
 | 12,_=>by kernel_rfl
 | 13,_=>by kernel_rfl
 | 14,_=>by kernel_rfl
 | 15,_=>by kernel_rfl
 | 16,_=>by kernel_rfl
 | 17,_=>by kernel_rfl
 | 18,_=>by kernel_rfl
 | 19,_=>by kernel_rfl
 | 20,_=>by kernel_rfl
 | 21,_=>by kernel_rfl
 | 22,_=>by kernel_rfl
 | 23,_=>by kernel_rfl
 | 24,_=>by kernel_rfl
 | 25,_=>by kernel_rfl
 | 26,_=>by kernel_rfl
 | 27,_=>by kernel_rfl
 | 28,_=>by kernel_rfl
 | 29,_=>by kernel_rfl
 | 30,_=>by kernel_rfl
 | 31,_=>by kernel_rfl
 | i+32,h=>absurd h (by omega)
theorem Dq (s:bW) (x:gU) : ∀ i,i<32→laid (aT s) (i*8) (fL x)=aT { s with T:=j9 s.T i x }
 | 0,_=>by kernel_rfl
 | 1,_=>by kernel_rfl
 | 2,_=>by kernel_rfl
 | 3,_=>by kernel_rfl
 | 4,_=>by kernel_rfl
 | 5,_=>by kernel_rfl
 | 6,_=>by kernel_rfl
 | 7,_=>by kernel_rfl
 | 8,_=>by kernel_rfl
 | 9,_=>by kernel_rfl
 | 10,_=>by kernel_rfl
 | 11,_=>by kernel_rfl
 | 12,_=>by kernel_rfl
 | 13,_=>by kernel_rfl
 | 14,_=>by kernel_rfl
 | 15,_=>by kernel_rfl
 | 16,_=>by kernel_rfl
 | 17,_=>by kernel_rfl
 | 18,_=>by kernel_rfl
 | 19,_=>by kernel_rfl
 | 20,_=>by kernel_rfl
 | 21,_=>by kernel_rfl
 | 22,_=>by kernel_rfl
 | 23,_=>by kernel_rfl
 | 24,_=>by kernel_rfl
 | 25,_=>by kernel_rfl
 | 26,_=>by kernel_rfl
 | 27,_=>by kernel_rfl
 | 28,_=>by kernel_rfl
 | 29,_=>by kernel_rfl
 | 30,_=>by kernel_rfl
 | 31,_=>by kernel_rfl
 | i+32,h=>absurd h (by omega)
theorem Cj (s:bW) (x:Sl Se) : ∀ i,i<32→laid (aT s) (275+i) [x.v]=aT { s with sp:=j9 s.sp i x }
 | 0,_=>by kernel_rfl
 | 1,_=>by kernel_rfl
 | 2,_=>by kernel_rfl
 | 3,_=>by kernel_rfl
 | 4,_=>by kernel_rfl
 | 5,_=>by kernel_rfl
 | 6,_=>by kernel_rfl
 | 7,_=>by kernel_rfl
 | 8,_=>by kernel_rfl
 | 9,_=>by kernel_rfl
 | 10,_=>by kernel_rfl
 | 11,_=>by kernel_rfl
 | 12,_=>by kernel_rfl
 | 13,_=>by kernel_rfl
 | 14,_=>by kernel_rfl
 | 15,_=>by kernel_rfl
 | 16,_=>by kernel_rfl
 | 17,_=>by kernel_rfl
 | 18,_=>by kernel_rfl
 | 19,_=>by kernel_rfl
 | 20,_=>by kernel_rfl
 | 21,_=>by kernel_rfl
 | 22,_=>by kernel_rfl
 | 23,_=>by kernel_rfl
 | 24,_=>by kernel_rfl
 | 25,_=>by kernel_rfl
 | 26,_=>by kernel_rfl
 | 27,_=>by kernel_rfl
 | 28,_=>by kernel_rfl
 | 29,_=>by kernel_rfl
 | 30,_=>by kernel_rfl
 | 31,_=>by kernel_rfl
 | i+32,h=>absurd h (by omega)
theorem ba (s:bW):(aT s).length=376:=by kernel_rfl
theorem oB (s:bW):(jN s).length=380:=by kernel_rfl
theorem fT (s:bW) : ∀ v∈aT s,a7 v=true:=by
 have h:(aT s).all a7=true:=by kernel_rfl
 exact fun v hv=>List.all_eq_true.1 h v hv
theorem sW (s:bW):dV (aT s) s:=
 ⟨ba s,fT s,Cm s,B3 s,by kernel_rfl,by kernel_rfl,by kernel_rfl,by kernel_rfl,by kernel_rfl,by kernel_rfl,w9 s,by kernel_rfl,by kernel_rfl,by kernel_rfl,by kernel_rfl,by kernel_rfl,by kernel_rfl,by kernel_rfl,by kernel_rfl,by kernel_rfl,by kernel_rfl⟩
end Go.Proofs.YtlnhdpjnlffaoaaGreatDoor
