/- Parts of the proof: AbE, AbF, AbG, AbH, AbI, AbJ, AbK, ShE, AbL, AbM, AbN, AbO, AbP, AbR. -/
import Derived.Test.YtlnhdpjnlffaoaaGreatDoorQH
import Derived.Test.YtlnhdpjnlffaoaaGreatDoorQI
import Derived.Shelf.Sort.Plain
import Derived.Shelf.Slices.CompactI
import Derived.Shelf.Slices.In.SortNone
import Derived.Test.YtlnhdpjnlffaoaaGreatDoorProg
import Derived.Test.YtlnhdpjnlffaoaaGreatDoorQC
namespace Go.Proofs.YtlnhdpjnlffaoaaGreatDoor
open Go Go.Sx
set_option maxRecDepth 100000
set_option maxHeartbeats 4000000
set_option linter.unusedVariables false
set_option linter.unusedSimpArgs false
def rz (s:bR):Bool:=decide (s.pe.l.length=0) && !([s.M 0,s.M 1,s.M 2,s.M 3,s.M 4].any fun y=>true == y)
theorem lj (C:List Value) (s:bR) (hC:dM C s) (ho:s.Ok):ah Tryz.prog 72 [.agg ⟨C⟩] s.Rows (fun v F=>v = .bool (rz s)):=by
 have hb : ∀ b:Nat,_:=fun b=>nS true [s.M 0,s.M 1,s.M 2,s.M 3,s.M 4] ⟨some ⟨b,367,none⟩,5⟩ ⟨by simp,by simp⟩ (by simp)
 unfold rz
 generalize ([s.M 0,s.M 1,s.M 2,s.M 3,s.M 4].any fun y=>true == y)=q at *
 refine ah.aK ae Tryz.func72 rfl (by decide) (n:=Tryz.f72.ntmps - 1) rfl rfl fun w0 av=>?_
 conv=>whnf
 repeat (refine aa.of ?_;conv=>whnf)
 refine ar.cA fun br=>?_
 conv=>whnf
 repeat (refine aa.of ?_;conv=>whnf)
 have hr:(C.drop 367).take 5 = [s.M 0,s.M 1,s.M 2,s.M 3,s.M 4].map Value.bool:=by
  have:=congrArg (List.take 5) hC.iq
  rw[List.take_take] at this
  exact this
 repeat' (first
  | (refine And.intro ?_ ?_<;>conv=>whnf)
  | (refine an.same rfl ?_;conv=>whnf)
  | (refine an.row rfl ?_;conv=>whnf)
  | (refine an.call rfl ?_;conv=>whnf)
  | (refine aS.of ?_;conv=>whnf)
  | (refine aa.of ?_;conv=>whnf)
  | (refine ar.aj (ak.aE ae rfl rfl (ad:=⟨br,0,none⟩) (k:=372) (L:=C) (v:=s.pe.v) (aG.row (by simp[Value.cells])) (fun _=>rfl) (cellOf hC.iq (j:=5) (by decide) rfl) ?_);conv=>whnf)
  | (refine ar.aj (ak.v_ ae (t:=66) rfl rfl rfl rfl ?_);conv=>whnf)
  | (refine aw.look (hb br) (Loc.row _ _) (fun w hst=>hr ▸ ((aG.row (b:=br) (C:=C) (by simp[Value.cells]) w hst).drop 367).take 5) ?_;conv=>whnf)
  | (split<;>conv=>whnf)
  | (refine an.mk ?_ ?_;(focus (first | exact ao.refl _ | exact ao.left _ _ | exact ao.of_le ⟨List.sublist_append_left _ _,fun w h=>h⟩ | exact ao.of_le ⟨List.Sublist.refl _,fun w h=>h.1⟩));conv=>whnf))
 all_goals refine⟨_,ao.refl _,?_⟩
 all_goals first | rfl | (congr 1;done) | (congr 1;rw[Bool.eq_iff_iff];simp_all [aI,au,aJ,aH,aO,aN,and_assoc];done) | (congr 1;rw[Bool.eq_iff_iff];simp_all [aI,au,aJ,aH,aO,aN,and_assoc];omega) | (congr 1;rw[Bool.eq_iff_iff];(try cases q1)<;>(try cases q2)<;>(try cases q3)<;>(try simp_all [aI,au,aJ,aH,aO,aN,and_assoc])<;>(try omega);done)
def vp (x:zS):pM:=⟨1,x.tag,x.frame,x.w⟩
def oT (s:bR):Bool:=if s.wi.l.length=0 then !s.tr.opn else decide (s.wi.l.length=1)&&(eu (bc s.wi.l[0]!) (bc (vp s.tr))&&(s.tr.opn&&(s.dc.opn&&bJ s.dc.tag s.tr.tag)))
theorem u7 (x y:pM):qM Tryz.prog (Tryz.prog.fieldsOf 168).toList 0 (bc x) (bc y):=by
 rw[show Tryz.prog.fieldsOf 168=_ from by unfold Program.fieldsOf;rw[Tryz.underlying168]]
 exact⟨⟨by decide,rfl,.inl ⟨by kernel_rfl,_,_,rfl,rfl⟩⟩,⟨by decide,rfl,.inl ⟨by kernel_rfl,_,_,rfl,rfl⟩⟩,⟨by decide,rfl,.inl ⟨by kernel_rfl,_,_,rfl,rfl⟩⟩,⟨by decide,rfl,.inr ⟨by kernel_rfl,_,_,rfl,rfl⟩⟩,trivial⟩
theorem zK:Tryz.prog.underlying 168=some (.struct (Tryz.prog.fieldsOf 168)):=by
 unfold Program.fieldsOf
 rw[Tryz.underlying168]
theorem mY (C:List Value) (s:bR) (hC:dM C s) (ho:s.Ok):ah Tryz.prog 67 [.agg ⟨C⟩] s.Rows (fun v F=>v = .bool (oT s)):=by
 have hwi:=hC.wi
 have hnil:=ho.wi.h.nil
 have hbang:0<s.wi.l.length→s.wi.l[0]! = s.wi.l[0]!:=fun _=>rfl
 unfold Sl.v at hwi
 unfold oT
 obtain⟨q,hq⟩ : ∃ q,eu (bc s.wi.l[0]!) (bc (vp s.tr))=q:=⟨_,rfl⟩
 obtain⟨n,hn⟩ : ∃ n,s.wi.l.length=n:=⟨_,rfl⟩
 rw[hq,hn]
 rw[hn] at hwi hnil
 refine ah.aK ae Tryz.func67 rfl (by decide) (n:=Tryz.f67.ntmps - 1) rfl rfl fun w0 av=>?_
 conv=>whnf
 repeat (refine aa.of ?_;conv=>whnf)
 refine ar.cA fun br=>?_
 conv=>whnf
 repeat (refine aa.of ?_;conv=>whnf)
 refine ar.aj (ak.aU ae rfl rfl (ad:=⟨br,0,none⟩) (k:=318) (L:=C) (m:=qQ s.tr) (aG.row (by simp[Value.cells])) rfl hC.tr rfl ?_)
 conv=>whnf
 repeat (refine aa.of ?_;conv=>whnf)
 intro b1
 conv=>whnf
 repeat (refine aa.of ?_;conv=>whnf)
 refine ar.aj (ak.aE ae rfl rfl (ad:=⟨br,0,none⟩) (k:=307) (L:=C) (v:=s.wi.h.v n) (aG.row (by simp[Value.cells])) (fun _=>rfl) hwi ?_)
 conv=>whnf
 repeat (refine aa.of ?_;conv=>whnf)
 refine bT.split (fun h0=>?_) (fun h0=>?_)
 · have hz:n=0:=by
    simp[aO] at h0
    omega
   conv=>whnf
   repeat (refine aa.of ?_;conv=>whnf)
   exact⟨_,ao.refl _,by rw[if_pos hz]⟩
 · have hz:n≠0:=by
    simp[aO] at h0
    omega
   rw[if_neg hz]
   conv=>whnf
   repeat (refine aa.of ?_;conv=>whnf)
   intro b2
   conv=>whnf
   repeat (refine aa.of ?_;conv=>whnf)
   have hd:decide (n=1)=bJ (n:Int) 1:=by
    rw[aO,Bool.eq_iff_iff]
    simp
    omega
   have hget:0<s.wi.l.length→((s.wi.l.flatMap bc).drop (0*4)).take 4=bc s.wi.l[0]!:=fun h=>by
    rw[cm h]
    exact bj (cf:=bc) (z:=4) (fun _=>rfl) h
   refine az.draw ae mixed rfl rfl ?_
   conv=>whnf
   repeat' (first
    | (refine And.intro ?_ ?_<;>conv=>whnf)
    | (refine an.same rfl ?_;conv=>whnf)
    | (refine an.row rfl ?_;conv=>whnf)
    | (refine an.call rfl ?_;conv=>whnf)
    | (refine aS.of ?_;conv=>whnf)
    | (refine aa.of ?_;conv=>whnf)
    | (refine ak.aE ae rfl rfl (ad:=⟨br,0,none⟩) (k:=307) (L:=C) (v:=s.wi.h.v n) (aG.row (by simp[Value.cells])) (fun _=>rfl) hwi ?_;conv=>whnf)
    | (refine ak.index ae (t:=95) rfl rfl rfl (by omega) (by omega) hnil fun ad had=>?_;conv=>whnf)
    | (refine ak.aU ae rfl rfl (ad:=ad) (k:=0*4) (L:=s.wi.l.flatMap bc) (m:=bc s.wi.l[0]!) (.fact fun w hw=>had ▸ hw.wi) (by simp) (hget (by omega)) rfl ?_;conv=>whnf)
    | (refine ak.xI zK (by kernel_rfl) (by kernel_rfl) (xs:=bc s.wi.l[0]!) (ys:=bc (vp s.tr)) (u7 _ _) ?_;rw[hq];conv=>whnf)
    | (refine ak.aE ae rfl rfl (ad:=⟨br,0,none⟩) (k:=309) (L:=C) (v:=.bool s.dc.opn) (aG.row (by simp[Value.cells])) (fun _=>rfl) (cellOf hC.dk (j:=1) (by decide) rfl) ?_;conv=>whnf)
    | (refine ak.aE ae rfl rfl (ad:=⟨br,0,none⟩) (k:=310) (L:=C) (v:=.int .i64 s.dc.tag) (aG.row (by simp[Value.cells])) (fun _=>rfl) (cellOf hC.dk (j:=2) (by decide) rfl) ?_;conv=>whnf)
    | (split<;>conv=>whnf)
    | (refine an.mk ?_ ?_;(focus (first | exact ao.refl _ | exact ao.left _ _ | exact ao.of_le ⟨List.sublist_append_left _ _,fun w h=>h⟩ | exact ao.of_le ⟨List.Sublist.refl _,fun w h=>h.1⟩));conv=>whnf))
   all_goals
    refine⟨_,ao.refl _,?_⟩
    clear hq hget hnil hwi hC ho hbang
    rw[hd]
    simp_all
def tL (c:Int):Int:=if bJ c 98 then 1 else if bJ c 101 then 24 else if bJ c 112 then 31 else if bJ c 102 then 95 else if bJ c 107 then 159 else if bJ c 115 then 19 else if bJ c 109 then 2 else if bJ c 122 then 9 else if bJ c 121 then 5 else if bJ c 118 then 255 else 0
theorem um (c:Int):ah Tryz.prog 257 [.int .u8 c] (fun _=>True) (fun v F=>v = .int .i64 (tL c)):=by
 refine ah.aK ae Tryz.func257 rfl (by decide) (n:=Tryz.f257.ntmps - 1) rfl rfl fun w0 av=>?_
 conv=>whnf
 repeat (refine aa.of ?_;conv=>whnf)
 repeat' (first
  | (refine And.intro ?_ ?_<;>conv=>whnf)
  | (refine an.same rfl ?_;conv=>whnf)
  | (refine an.row rfl ?_;conv=>whnf)
  | (refine an.call rfl ?_;conv=>whnf)
  | (refine aS.of ?_;conv=>whnf)
  | (refine aa.of ?_;conv=>whnf)
  | (refine bT.split (fun h=>?_) (fun h=>?_)<;>conv=>whnf)
  | (refine an.mk ?_ ?_;(focus (first | exact ao.refl _ | exact ao.left _ _ | exact ao.of_le ⟨List.sublist_append_left _ _,fun w h=>h⟩ | exact ao.of_le ⟨List.Sublist.refl _,fun w h=>h.1⟩));conv=>whnf))
 all_goals exact⟨_,ao.refl _,by unfold tL;simp only[*,if_true,if_false,Bool.false_eq_true]⟩
def mZ (c n:Int):Bool:=if bJ c 42 then true else if bJ c 110 then gQ n 0 else if bJ c 116 then gQ n 1 else if bJ c 117 then gQ n 16&&lz n 32 else if bJ c 99 then gQ n 1&&mX n 10 else if bJ c 103 then gQ n (-1)&&lz n 96 else
 if bJ c 100 then gQ n 1&&mX n 4 else if bJ c 120 then mr n 0&&mX n 7 else if bJ c 111 then gQ n 1&&mX n 6 else if bJ c 113 then gQ n 1&&mX n 6 else if bJ c 114 then gQ n 1&&mX n 3 else gQ n 0&&mX n (tL c)
theorem gX (c n:Int):ah Tryz.prog 240 [.int .u8 c,.int .i64 n] (fun _=>True) (fun v F=>v = .bool (mZ c n)):=by
 have h1:=um c
 obtain⟨m,hm⟩ : ∃ m,tL c=m:=⟨_,rfl⟩
 rw[hm] at h1
 unfold mZ
 rw[hm]
 refine ah.aK ae Tryz.func240 rfl (by decide) (n:=Tryz.f240.ntmps - 2) rfl rfl fun w0 av=>?_
 conv=>whnf
 repeat (refine aa.of ?_;conv=>whnf)
 repeat' (first
  | (refine And.intro ?_ ?_<;>conv=>whnf)
  | (refine an.same rfl ?_;conv=>whnf)
  | (refine an.row rfl ?_;conv=>whnf)
  | (refine an.call rfl ?_;conv=>whnf)
  | (refine aS.of ?_;conv=>whnf)
  | (refine aa.of ?_;conv=>whnf)
  | (refine aw.val h1 (fun w hw=>trivial) (fun v D hv=>?_);subst hv;conv=>whnf)
  | (refine bT.split (fun h=>?_) (fun h=>?_)<;>conv=>whnf)
  | (refine an.mk ?_ ?_;(focus (first | exact ao.refl _ | exact ao.left _ _ | exact ao.of_le ⟨List.sublist_append_left _ _,fun w h=>h⟩ | exact ao.of_le ⟨List.Sublist.refl _,fun w h=>h.1⟩));conv=>whnf))
 all_goals exact⟨_,ao.refl _,by simp only[*,if_true,if_false,cond_true,cond_false,Bool.false_eq_true,Bool.and_true,Bool.true_and,Bool.and_false,Bool.false_and]⟩
def kH (l:List UInt8) (i:Nat):Int:=if i<l.length then (l[i]!.toNat:Int) else 48
def nv (l:List UInt8) (A:List Int):Bool:=allI 4 fun i=>mZ (kH l i) A[i]!
theorem ub (l:List UInt8) (hl:l.length≤1000) (A:List Int) (hA:A.length=4):ah Tryz.prog 208 [dS l,.agg ⟨A.map bL⟩] (fun _=>True) (fun v F=>v = .bool (nv l A)):=by
 obtain⟨a0,a1,a2,a3,rfl⟩ : ∃ a0 a1 a2 a3,A = [a0,a1,a2,a3]:=by
  rcases A with _ | ⟨a,_ | ⟨b,_ | ⟨c,_ | ⟨d,_ | ⟨e,A⟩⟩⟩⟩⟩<;>simp at hA
  exact⟨a,b,c,d,rfl⟩
 refine ah.aK ae Tryz.func208 rfl (by decide) (n:=Tryz.f208.ntmps - 2) rfl rfl fun w0 av=>?_
 conv=>whnf
 repeat (refine aa.of ?_;conv=>whnf)
 intro b1
 conv=>whnf
 repeat (refine aa.of ?_;conv=>whnf)
 refine az.loop ae (ι:=Nat) ([5,6,7,9]++List.range' 10 15) (fun x=>x≤4∧∀ j,j<x→mZ (kH l j) [a0,a1,a2,a3][j]! = true)
  (fun x=>[(9,.v (.int .i64 (x:Int)))]) (fun _=>[[a0,a1,a2,a3].map bL]) (fun _=>⟨fun _=>True,[]⟩)
  (fun x=>4 - x) 0 ⟨Nat.zero_le _,fun j h=>by omega⟩ ?_ rfl (ao.refl _) fun i hi=>?_
 · conv=>whnf
   repeat (first | exact ax.nil | refine ax.any ?_ | refine ax.cons ?_)
 obtain⟨hi,hall⟩:=hi
 conv=>whnf
 repeat (refine aa.of ?_;conv=>whnf)
 refine bT.split (fun hlt=>?_) (fun hlt=>?_)
 · have hlt':i<4:=by
    simp[au] at hlt
    omega
   have h1:=gX (kH l i) [a0,a1,a2,a3][i]!
   obtain⟨q,hq⟩ : ∃ q,mZ (kH l i) [a0,a1,a2,a3][i]! = q:=⟨_,rfl⟩
   rw[hq] at h1
   obtain⟨m,hm⟩ : ∃ m,[a0,a1,a2,a3][i]! = m:=⟨_,rfl⟩
   rw[hm] at h1
   have hget:([a0,a1,a2,a3].map bL)[i]? = some (.int .i64 m):=by
    rw[List.getElem?_map,List.getElem?_eq_getElem (by simpa using hlt')]
    rw[cm (by simpa using hlt')] at hm
    rw[hm]
    rfl
   conv=>whnf
   repeat (refine aa.of ?_;conv=>whnf)
   refine ar.aj (ak.fF ae (t:=204) rfl rfl rfl rfl rfl (l:=[a0,a1,a2,a3].map bL) i rfl hlt' (v:=.int .i64 m) hget ?_)
   conv=>whnf
   repeat (refine aa.of ?_;conv=>whnf)
   by_cases hc:i<l.length
   · have hb:lz (i:Int) (l.length:Int)=true:=by simp[au];omega
     have hcl:kH l i=(l[i].toNat:Int):=by
      unfold kH
      rw[if_pos hc,cm hc]
     rw[hcl] at h1
     refine bT.yes hb ?_
     conv=>whnf
     repeat (refine aa.of ?_;conv=>whnf)
     refine ar.aj (ak.uX ae (t:=9) rfl rfl (l:=l) i rfl hc ?_)
     conv=>whnf
     repeat (refine aa.of ?_;conv=>whnf)
     refine aw.val h1 (fun w hw=>trivial) (fun v D hv=>?_)
     subst hv
     cases q
     · conv=>whnf
       repeat (refine aa.of ?_;conv=>whnf)
       exact⟨_,ao.refl _,by unfold nv;rw[aZ hlt' (by simpa using hq)]⟩
     · conv=>whnf
       repeat (refine aa.of ?_;conv=>whnf)
       refine⟨i+1,⟨⟨hlt',fun j hj=>?_⟩,by dsimp only;omega⟩,?_,?_,ao.refl _⟩
       · rcases Nat.lt_or_eq_of_le (Nat.lt_succ_iff.1 hj) with h5 | h5
         · exact hall j h5
         · exact h5 ▸ hq
       · conv=>whnf
         refine⟨?_,rfl⟩
         repeat (first | exact ax.nil | refine ax.any ?_ | refine ax.cons ?_ | refine ax.eq (by rw[wrap_i64 (by omega)];rfl) ?_)
       · conv=>whnf
         exact⟨⟨rfl,rfl⟩,trivial⟩
   · have hb:lz (i:Int) (l.length:Int)=false:=by simp[au];omega
     have hcl:kH l i=48:=by
      unfold kH
      rw[if_neg hc]
     rw[hcl] at h1
     refine bT.no hb ?_
     conv=>whnf
     repeat (refine aa.of ?_;conv=>whnf)
     refine aw.val h1 (fun w hw=>trivial) (fun v D hv=>?_)
     subst hv
     cases q
     · conv=>whnf
       repeat (refine aa.of ?_;conv=>whnf)
       exact⟨_,ao.refl _,by unfold nv;rw[aZ hlt' (by simpa using hq)]⟩
     · conv=>whnf
       repeat (refine aa.of ?_;conv=>whnf)
       refine⟨i+1,⟨⟨hlt',fun j hj=>?_⟩,by dsimp only;omega⟩,?_,?_,ao.refl _⟩
       · rcases Nat.lt_or_eq_of_le (Nat.lt_succ_iff.1 hj) with h5 | h5
         · exact hall j h5
         · exact h5 ▸ hq
       · conv=>whnf
         refine⟨?_,rfl⟩
         repeat (first | exact ax.nil | refine ax.any ?_ | refine ax.cons ?_ | refine ax.eq (by rw[wrap_i64 (by omega)];rfl) ?_)
       · conv=>whnf
         exact⟨⟨rfl,rfl⟩,trivial⟩
 · have hie:i=4:=by
    simp[au] at hlt
    omega
   subst hie
   conv=>whnf
   repeat (refine aa.of ?_;conv=>whnf)
   exact⟨_,ao.refl _,by unfold nv;rw[bH hall]⟩
def xQ (c:Int):Int:=if bJ c 0 then 3 else if bJ c 1 then 3 else if bJ c 2 then 3 else if bJ c 3 then 3 else if bJ c 4 then 3 else if bJ c 5 then 3 else if bJ c 6 then 4 else if bJ c 18 then 10 else if bJ c 19 then 10 else if lz c 0||gQ c 20 then 0 else 5
def wQ (c:Int):Bool:=if bJ c 0 then true else if bJ c 1 then true else if bJ c 2 then true else if bJ c 3 then true else if bJ c 4 then true else if bJ c 5 then true else if bJ c 6 then true else if bJ c 18 then true else if bJ c 19 then true else !(lz c 0||gQ c 20)
theorem pt (c:Int):ah Tryz.prog 241 [.int .i64 c] (fun _=>True) (fun v F=>v = .tuple ⟨[.int .i64 (xQ c),.bool (wQ c)]⟩):=by
 refine ah.aK ae Tryz.func241 rfl (by decide) (n:=Tryz.f241.ntmps - 1) rfl rfl fun w0 av=>?_
 conv=>whnf
 repeat (refine aa.of ?_;conv=>whnf)
 repeat' (first
  | (refine And.intro ?_ ?_<;>conv=>whnf)
  | (refine an.same rfl ?_;conv=>whnf)
  | (refine an.row rfl ?_;conv=>whnf)
  | (refine an.call rfl ?_;conv=>whnf)
  | (refine aS.of ?_;conv=>whnf)
  | (refine aa.of ?_;conv=>whnf)
  | (refine bT.split (fun h=>?_) (fun h=>?_)<;>conv=>whnf)
  | (split<;>conv=>whnf)
  | (refine an.mk ?_ ?_;(focus (first | exact ao.refl _ | exact ao.left _ _ | exact ao.of_le ⟨List.sublist_append_left _ _,fun w h=>h⟩ | exact ao.of_le ⟨List.Sublist.refl _,fun w h=>h.1⟩));conv=>whnf))
 all_goals exact⟨_,ao.refl _,by unfold xQ wQ;first | (simp_all;done) | (cases hx:lz c 0<;>cases hy:gQ c 20<;>simp_all)⟩
def w5 (d:Int):Int:=if mZ 100 d then (if bJ d 1 then 7 else if bJ d 2 then 8 else if bJ d 3 then 9 else 10) else 0
theorem wT {d:Int} (h:mZ 100 d=true):1≤d∧d≤4:=by
 unfold mZ at h
 simpa [aO,aI,aJ] using h
theorem qZ (d:Int):ah Tryz.prog 242 [.int .i64 d] (fun _=>True) (fun v F=>v = .int .i64 (w5 d)):=by
 have h1:=gX 100 d
 have hb:=@wT d
 unfold w5
 generalize mZ 100 d=q at *
 refine ah.aK ae Tryz.func242 rfl (by decide) (n:=Tryz.f242.ntmps - 1) rfl rfl fun w0 av=>?_
 conv=>whnf
 repeat (refine aa.of ?_;conv=>whnf)
 refine aw.val h1 (fun w hw=>trivial) (fun v D hv=>?_)
 subst hv
 cases q
 · conv=>whnf
   repeat (refine aa.of ?_;conv=>whnf)
   exact⟨_,ao.refl _,rfl⟩
 · have hd:=hb rfl
   conv=>whnf
   repeat (refine aa.of ?_;conv=>whnf)
   refine ar.aj (ak.fF ae rfl rfl rfl rfl rfl d.toNat (by omega) (by omega) (v:=.int .i64 (if bJ d 1 then 7 else if bJ d 2 then 8 else if bJ d 3 then 9 else 10)) ?_ ?_)
   · obtain h | h | h | h:d=1∨d=2∨d=3∨d=4:=by omega
     all_goals
      subst h
      simp[aO]
   conv=>whnf
   repeat (refine aa.of ?_;conv=>whnf)
   exact⟨_,ao.refl _,by rw[if_pos rfl]⟩
def tK (x:Mg):Bool:=if bJ x.kind 1 then wQ x.a0&&(mZ 117 x.src&&bJ x.dst (xQ x.a0)) else if bJ x.kind 2 then mZ 117 x.src else if bJ x.kind 3 then bJ x.dst (w5 x.a0) else if bJ x.kind 4 then mZ 99 x.dst else if bJ x.kind 27 then mZ 99 x.dst else
 if bJ x.kind 6 then mZ 99 x.dst&&kr x.dst 1 else if bJ x.kind 7 then mZ 99 x.src&&kr x.src 1 else if bJ x.kind 26 then mZ 99 x.src else if bJ x.kind 20 then (bJ x.src 4&&gQ x.a1 96)||(bJ x.src 6&&lz x.a1 96) else if bJ x.kind 21 then bJ x.dst 4||bJ x.dst 6 else true
theorem uo (x:Mg):ah Tryz.prog 209 [.agg ⟨nB x⟩] (fun _=>True) (fun v F=>v = .bool (tK x)):=by
 have h1:=pt x.a0
 have h2:=gX 117 x.src
 have h3:=qZ x.a0
 have h4:=gX 99 x.dst
 have h5:=gX 99 x.src
 unfold tK
 generalize xQ x.a0=t at *
 generalize wQ x.a0=q1 at *
 generalize mZ 117 x.src=q2 at *
 generalize w5 x.a0=d at *
 generalize mZ 99 x.dst=q4 at *
 generalize mZ 99 x.src=q5 at *
 refine ah.aK ae Tryz.func209 rfl (by decide) (n:=Tryz.f209.ntmps - 1) rfl rfl fun w0 av=>?_
 conv=>whnf
 repeat (refine aa.of ?_;conv=>whnf)
 intro b1
 conv=>whnf
 repeat (refine aa.of ?_;conv=>whnf)
 repeat' (first
  | (refine And.intro ?_ ?_<;>conv=>whnf)
  | (refine an.same rfl ?_;conv=>whnf)
  | (refine an.row rfl ?_;conv=>whnf)
  | (refine an.call rfl ?_;conv=>whnf)
  | (refine aS.of ?_;conv=>whnf)
  | (refine aa.of ?_;conv=>whnf)
  | (refine az.draw ae mixed rfl rfl ?_;conv=>whnf)
  | (refine aw.val h1 (fun w hw=>trivial) (fun v D hv=>?_);subst hv;conv=>whnf)
  | (refine aw.val h2 (fun w hw=>trivial) (fun v D hv=>?_);subst hv;conv=>whnf)
  | (refine aw.val h3 (fun w hw=>trivial) (fun v D hv=>?_);subst hv;conv=>whnf)
  | (refine aw.val h4 (fun w hw=>trivial) (fun v D hv=>?_);subst hv;conv=>whnf)
  | (refine aw.val h5 (fun w hw=>trivial) (fun v D hv=>?_);subst hv;conv=>whnf)
  | (refine bT.split (fun h=>?_) (fun h=>?_)<;>conv=>whnf)
  | (refine an.mk ?_ ?_;(focus (first | exact ao.refl _ | exact ao.left _ _ | exact ao.of_le ⟨List.sublist_append_left _ _,fun w h=>h⟩ | exact ao.of_le ⟨List.Sublist.refl _,fun w h=>h.1⟩));conv=>whnf))
 all_goals refine⟨_,ao.refl _,?_⟩
 all_goals first | rfl | (simp only[*,if_true,if_false,cond_true,cond_false,Bool.false_eq_true,Bool.and_true,Bool.true_and,Bool.and_false,Bool.false_and,Bool.or_true,Bool.true_or,Bool.or_false,Bool.false_or];done) | (simp_all;done)
def nV (x:Mg):Bool:=if bJ x.kind 8 then kr x.a0 x.a1 else if bJ x.kind 12 then kr x.a0 x.a1 else if bJ x.kind 20 then (if bJ x.a0 1&&bJ x.a2 (-1) then bJ (x.data.n:Int) 128 else bJ (x.data.n:Int) 0) else if bJ x.kind 24 then (if bJ x.a0 5 then bJ x.a1 0 else mZ 117 x.a1) else true
theorem rZ (x:Mg):ah Tryz.prog 210 [.agg ⟨nB x⟩] (fun _=>True) (fun v F=>v = .bool (nV x)):=by
 have h1:=gX 117 x.a1
 unfold nV
 generalize mZ 117 x.a1=q1 at *
 refine ah.aK ae Tryz.func210 rfl (by decide) (n:=Tryz.f210.ntmps - 1) rfl rfl fun w0 av=>?_
 conv=>whnf
 repeat (refine aa.of ?_;conv=>whnf)
 intro b1
 conv=>whnf
 repeat (refine aa.of ?_;conv=>whnf)
 repeat' (first
  | (refine And.intro ?_ ?_<;>conv=>whnf)
  | (refine an.same rfl ?_;conv=>whnf)
  | (refine an.row rfl ?_;conv=>whnf)
  | (refine an.call rfl ?_;conv=>whnf)
  | (refine aS.of ?_;conv=>whnf)
  | (refine aa.of ?_;conv=>whnf)
  | (refine aw.val h1 (fun w hw=>trivial) (fun v D hv=>?_);subst hv;conv=>whnf)
  | (refine bT.split (fun h=>?_) (fun h=>?_)<;>conv=>whnf)
  | (split<;>conv=>whnf)
  | (refine an.mk ?_ ?_;(focus (first | exact ao.refl _ | exact ao.left _ _ | exact ao.of_le ⟨List.sublist_append_left _ _,fun w h=>h⟩ | exact ao.of_le ⟨List.Sublist.refl _,fun w h=>h.1⟩));conv=>whnf))
 all_goals refine⟨_,ao.refl _,?_⟩
 all_goals first | rfl | (simp only[*,if_true,if_false,cond_true,cond_false,Bool.false_eq_true,Bool.and_true,Bool.true_and,Bool.and_false,Bool.false_and,Bool.or_true,Bool.true_or,Bool.or_false,Bool.false_or];done) | (simp_all;done)
structure Fm where
 fr:Int
 to:Int
 args:List UInt8
 data:Int
instance:Inhabited Fm:=⟨⟨0,0,[],0⟩⟩
def wI (x:Fm):List Value:=[.int .i64 x.fr,.int .i64 x.to,dS x.args,.int .i64 x.data]
def ek:List Fm:=[⟨0,0,[],0⟩,⟨-1,-1,[115,42,42,42],128⟩,⟨-1,4,[112,98],0⟩,⟨0,-1,[100,110,42,42],128⟩,⟨0,-1,[42,110],0⟩,⟨0,1,[99,120],0⟩,⟨1,-1,[110],0⟩,⟨-1,1,[110],0⟩,⟨3,4,[117,117],0⟩,⟨3,4,[117],1536⟩,
 ⟨3,4,[117],0⟩,⟨4,3,[117,101,110],0⟩,⟨3,5,[117,117],0⟩,⟨3,5,[117],128⟩,⟨3,5,[117],0⟩,⟨5,3,[117,101],1536⟩,⟨3,10,[117],0⟩,⟨10,3,[117],0⟩,⟨5,6,[111,42,42,42],128⟩,⟨6,5,[101,42,121],1536⟩,
 ⟨-1,7,[98,107,103],128⟩,⟨7,-1,[101,107],128⟩,⟨5,9,[109,117,110],128⟩,⟨9,5,[117,101],128⟩,⟨5,8,[113,42,42,42],128⟩,⟨8,5,[117,101,42],128⟩,⟨-1,2,[122,42],128⟩,⟨2,-1,[101,42],128⟩]
theorem tQ:ek.length=28:=rfl
theorem sP : ∀ x∈ek,x.args.length≤1000:=by decide
def bD (w:World):Prop:=af w (some ⟨0,0,none⟩) (ek.flatMap wI)
def mn (x:Mg):Bool:=if lz x.kind 1||(gQ x.kind 28||lz x.seq 0) then false else
 (lz ek[x.kind.toNat]!.fr 0||bJ x.src ek[x.kind.toNat]!.fr)&&((lz ek[x.kind.toNat]!.to 0||bJ x.dst ek[x.kind.toNat]!.to)&&(nv ek[x.kind.toNat]!.args [x.a0,x.a1,x.a2,x.a3]&&(mX (x.data.n:Int) ek[x.kind.toNat]!.data&&(tK x&&nV x))))
theorem mA (x:Mg):ah Tryz.prog 131 [.agg ⟨nB x⟩] bD (fun v F=>v = .bool (mn x)):=by
 have h1:=uo x
 have h2:=rZ x
 unfold mn
 generalize tK x=q1 at *
 generalize nV x=q2 at *
 obtain⟨k,hk⟩ : ∃ k,x.kind=k:=⟨_,rfl⟩
 obtain⟨sq,hsq⟩ : ∃ k,x.seq=k:=⟨_,rfl⟩
 have hm:nB x = [.int .i64 x.src,.int .i64 x.dst,.int .i64 k,.int .i64 sq,.int .i64 x.a0,.int .i64 x.a1,.int .i64 x.a2,.int .i64 x.a3,de x.data]:=by rw[← hk,← hsq];rfl
 rw[hk,hsq]
 by_cases hg:1≤k∧k<28∧0≤sq
 · have g1:lz k 1=false:=by simp[au];omega
   have g2:gQ k 28=false:=by simp[aI];omega
   have g3:lz sq 0=false:=by simp[au];omega
   have hi:k.toNat<ek.length:=by rw[tQ];omega
   obtain⟨f,hf⟩ : ∃ f,f=ek[k.toNat]'hi:=⟨_,rfl⟩
   have hget:((ek.flatMap wI).drop (k.toNat*4)).take 4=wI f:=by
    rw[hf]
    exact bj (cf:=wI) (z:=4) (fun _=>rfl) hi
   have h3:=ub f.args (by rw[hf];exact sP _ (List.getElem_mem hi)) [x.a0,x.a1,x.a2,x.a3] rfl
   rw[cm hi,← hf]
   generalize nv f.args [x.a0,x.a1,x.a2,x.a3]=q3 at *
   clear hf
   rw[g1,g2,g3,if_neg (by decide)]
   refine ah.aK ae Tryz.func131 rfl (by decide) (n:=Tryz.f131.ntmps - 1) rfl rfl fun w0 av=>?_
   conv=>whnf
   repeat (refine aa.of ?_;conv=>whnf)
   rw[hm]
   intro b1
   conv=>whnf
   repeat (refine aa.of ?_;conv=>whnf)
   repeat' (first
    | (refine And.intro ?_ ?_<;>conv=>whnf)
    | (refine an.same rfl ?_;conv=>whnf)
    | (refine an.row rfl ?_;conv=>whnf)
    | (refine an.call rfl ?_;conv=>whnf)
    | (refine aS.of ?_;conv=>whnf)
    | (refine aa.of ?_;conv=>whnf)
    | (rw[g1];conv=>whnf)
    | (rw[g2];conv=>whnf)
    | (rw[g3];conv=>whnf)
    | (refine ar.aj (ak.bE ae (t:=340) rfl rfl rfl k.toNat (by omega) (by omega) rfl ?_);conv=>whnf)
    | (refine ar.aj (ak.aU ae rfl rfl (ad:=⟨0,0,none⟩) (k:=k.toNat*4) (L:=ek.flatMap wI) (m:=wI f) (.fact fun w hw=>hw) (by simp[Addr.add]) hget rfl ?_);conv=>whnf)
    | (intro b2;conv=>whnf)
    | (refine aw.val h3 (fun w hw=>trivial) (fun v D hv=>?_);subst hv;conv=>whnf)
    | (rw[← hm];refine aw.val h1 (fun w hw=>trivial) (fun v D hv=>?_);subst hv;rw[hm];conv=>whnf)
    | (rw[← hm];refine aw.val h2 (fun w hw=>trivial) (fun v D hv=>?_);subst hv;rw[hm];conv=>whnf)
    | (refine bT.split (fun h=>?_) (fun h=>?_)<;>conv=>whnf)
    | (split<;>conv=>whnf)
    | (refine an.mk ?_ ?_;(focus (first | exact ao.refl _ | exact ao.left _ _ | exact ao.of_le ⟨List.sublist_append_left _ _,fun w h=>h⟩ | exact ao.of_le ⟨List.Sublist.refl _,fun w h=>h.1⟩));conv=>whnf))
   all_goals refine⟨_,ao.refl _,?_⟩
   all_goals first | rfl | (simp only[*,if_true,if_false,cond_true,cond_false,Bool.false_eq_true,Bool.and_true,Bool.true_and,Bool.and_false,Bool.false_and,Bool.or_true,Bool.true_or,Bool.or_false,Bool.false_or];done) | (simp_all;done)
 · have hbad:(lz k 1||(gQ k 28||lz sq 0))=true:=by
    simp[au,aI]
    omega
   rw[if_pos hbad]
   refine ah.aK ae Tryz.func131 rfl (by decide) (n:=Tryz.f131.ntmps - 1) rfl rfl fun w0 av=>?_
   conv=>whnf
   repeat (refine aa.of ?_;conv=>whnf)
   rw[hm]
   intro b1
   conv=>whnf
   repeat (refine aa.of ?_;conv=>whnf)
   refine bT.split (fun h=>?_) (fun h=>?_)
   · conv=>whnf
     repeat (refine aa.of ?_;conv=>whnf)
     exact⟨_,ao.refl _,rfl⟩
   · exfalso
     simp_all
theorem xE {α:Type} (cf:α→List Value) (hz : ∀ x,(cf x).length=9) (f:FuncId) (Pre:World→Prop) (p:α→Bool) (l:List α) (h:Hd) (hh:h.Ok l.length) (hl:l.length≤140737488355328) (hf : ∀ e∈l,ah Tryz.prog f [.agg ⟨cf e⟩] Pre (fun v F=>v = .bool (p e))) :
 ah Tryz.prog 207 [h.v l.length,.func (.func f) #[] #[]] (fun w=>af w h.a (l.flatMap cf)∧Pre w) (fun v F=>v = .int .i64 (ef (l.findIdx? p))):=by
 refine ah.aK ae Tryz.func207 rfl (by decide) (n:=Tryz.f207.ntmps - 2) rfl rfl fun w0 av=>?_
 conv=>whnf
 refine az.loop ae (ι:=Nat) ([5]++List.range' 8 11) (fun x=>x≤l.length∧∀ j (hj:j<l.length),j<x→p l[j]=false)
  (fun x=>[(8,.v (.int .i64 (x:Int)))]) (fun _=>[]) (fun _=>⟨fun w=>af w h.a (l.flatMap cf)∧Pre w,[]⟩)
  (fun x=>l.length - x) 0 ⟨Nat.zero_le _,fun j hj h=>by omega⟩ ?_ rfl (ao.refl _) fun i hi=>?_
 · conv=>whnf
   repeat (first | exact ax.nil | refine ax.any ?_ | refine ax.cons ?_)
 obtain⟨hi,hall⟩:=hi
 conv=>whnf
 refine bT.split (fun hlt=>?_) (fun hlt=>?_)
 · have hlt':i<l.length:=by
    simp only[au,decide_eq_true_eq] at hlt
    omega
   conv=>whnf
   repeat (refine aa.of ?_;conv=>whnf)
   refine ar.aj (ak.index ae (t:=27) rfl rfl rfl (by omega) (by omega) hh.nil fun ad had=>?_)
   conv=>whnf
   repeat (refine aa.of ?_;conv=>whnf)
   refine ar.aj (ak.aU ae (t:=206) rfl rfl (ad:=ad) (k:=i*9) (L:=l.flatMap cf) (m:=cf l[i]) (.fact fun w hw=>had ▸ hw.1) (by simp) (bj hz hlt') (hz _) ?_)
   conv=>whnf
   repeat (refine aa.of ?_;conv=>whnf)
   refine aw.val (hf _ (List.getElem_mem hlt')) (fun w hw=>hw.2) (fun v D hv=>?_)
   generalize hq:p l[i]=q at hv
   subst hv
   cases q
   · conv=>whnf
     repeat (refine aa.of ?_;conv=>whnf)
     refine⟨i+1,⟨⟨hlt',fun j hj h=>?_⟩,by dsimp only;omega⟩,?_,?_,ao.refl _⟩
     · rcases Nat.lt_or_eq_of_le (Nat.lt_succ_iff.1 h) with h5 | h5
       · exact hall j hj h5
       · subst h5
         exact hq
     · conv=>whnf
       refine⟨?_,rfl⟩
       repeat (first | exact ax.nil | refine ax.any ?_ | refine ax.cons ?_ | refine ax.eq (by rw[wrap_i64 (by omega)];rfl) ?_)
     · conv=>whnf
       exact trivial
   · conv=>whnf
     repeat (refine aa.of ?_;conv=>whnf)
     refine⟨_,ao.refl _,?_⟩
     have:l.findIdx? p=some i:=by
      rw[List.findIdx?_eq_some_iff_getElem]
      exact⟨hlt',hq,fun j hj=>by simpa using hall j (by omega) hj⟩
     rw[this]
     rfl
 · have hie:i=l.length:=by
    simp only[au,decide_eq_false_iff_not] at hlt
    omega
   subst hie
   conv=>whnf
   repeat (refine aa.of ?_;conv=>whnf)
   refine⟨_,ao.refl _,?_⟩
   have:l.findIdx? p=none:=by
    rw[List.findIdx?_eq_none_iff]
    intro x hx
    obtain⟨j,hj,rfl⟩:=List.getElem_of_mem hx
    simpa using hall j hj hj
   rw[this]
   rfl
theorem xD {α:Type} (cf:α→List Value) (hz : ∀ x,(cf x).length=9) (f:FuncId) (Pre:World→Prop) (p:α→Bool) (l:List α) (h:Hd) (hh:h.Ok l.length) (hl:l.length≤140737488355328) (hf : ∀ e∈l,ah Tryz.prog f [.agg ⟨cf e⟩] Pre (fun v F=>v = .bool (p e))) :
 ah Tryz.prog 129 [h.v l.length,.func (.func f) #[] #[]] (fun w=>af w h.a (l.flatMap cf)∧Pre w) (fun v F=>v = .bool (l.any p)):=by
 have hi:=xE cf hz f Pre p l h hh hl hf
 have hv:=da l p
 generalize ef (l.findIdx? p)=j at *
 refine ah.aK ae Tryz.func129 rfl (by decide) (n:=Tryz.f129.ntmps - 2) rfl rfl fun w0 av=>?_
 conv=>whnf
 repeat (refine aa.of ?_;conv=>whnf)
 refine aw.val hi (fun w hw=>hw) (fun v D hv=>?_)
 subst hv
 conv=>whnf
 repeat (refine aa.of ?_;conv=>whnf)
 exact⟨_,ao.refl _,by rw[← hv,aI]⟩
theorem uh (x:Mg):ah Tryz.prog 130 [.agg ⟨nB x⟩] bD (fun v F=>v = .bool (!mn x || !decide (1≤x.dst∧x.dst≤10))):=by
 have h1:=mA x
 have h2:=jb x.dst
 generalize mn x=q1 at *
 generalize decide (1≤x.dst∧x.dst≤10)=q2 at *
 refine ah.aK ae Tryz.func130 rfl (by decide) (n:=Tryz.f130.ntmps - 1) rfl rfl fun w0 av=>?_
 conv=>whnf
 repeat (refine aa.of ?_;conv=>whnf)
 intro b1
 conv=>whnf
 repeat (refine aa.of ?_;conv=>whnf)
 refine aw.val h1 (fun w hw=>hw) (fun v D hv=>?_)
 subst hv
 cases q1
 · conv=>whnf
   repeat (refine aa.of ?_;conv=>whnf)
   exact⟨_,ao.refl _,rfl⟩
 · conv=>whnf
   repeat (refine aa.of ?_;conv=>whnf)
   refine aw.val h2 (fun w hw=>trivial) (fun v D hv=>?_)
   subst hv
   conv=>whnf
   repeat (refine aa.of ?_;conv=>whnf)
   exact⟨_,ao.refl _,rfl⟩
def vH (s:bR):Bool:=!(s.q.l.any fun x=>!mn x || !decide (1≤x.dst∧x.dst≤10))
theorem nj (C:List Value) (s:bR) (hC:dM C s) (ho:s.Ok):ah Tryz.prog 70 [.agg ⟨C⟩] (fun w=>s.Rows w∧bD w) (fun v F=>v = .bool (vH s)):=by
 have hb:=xD nB (fun _=>rfl) 130 bD (fun x=>!mn x || !decide (1≤x.dst∧x.dst≤10)) s.q.l s.q.h ho.q.h ho.q.le (fun e _=>uh e)
 unfold vH
 generalize (s.q.l.any fun x=>!mn x || !decide (1≤x.dst∧x.dst≤10))=q at *
 refine ah.aK ae Tryz.func70 rfl (by decide) (n:=Tryz.f70.ntmps - 1) rfl rfl fun w0 av=>?_
 conv=>whnf
 repeat (refine aa.of ?_;conv=>whnf)
 refine ar.cA fun br=>?_
 conv=>whnf
 repeat (refine aa.of ?_;conv=>whnf)
 refine ar.aj (ak.aE ae rfl rfl (ad:=⟨br,0,none⟩) (k:=267) (L:=C) (v:=s.q.v) (aG.row (by simp[Value.cells])) (fun _=>rfl) (cellOf hC.po (j:=0) (by decide) rfl) ?_)
 conv=>whnf
 repeat (refine aa.of ?_;conv=>whnf)
 refine aw.val hb (fun w hw=>⟨hw.1.q,hw.2⟩) (fun v D hv=>?_)
 subst hv
 conv=>whnf
 repeat (refine aa.of ?_;conv=>whnf)
 exact⟨_,ao.refl _,rfl⟩
theorem rP (C:List Value) (s:bR) (hC:dM C s) (ho:s.Ok) (b:Nat) (x:pM):ah Tryz.prog 125 [.agg ⟨bc x⟩,.pointer (some ⟨b,0,none⟩)]
 (fun w=>af w (some ⟨b,0,none⟩) C∧s.gr.At b_ w) (fun v F=>v = .bool (!kx s.gr.l 7 x.frame (if x.w then 2 else 1))):=by
 have h1:=kl s.gr.l s.gr.h ho.gr.h ho.gr.le 7 x.frame 1
 have h2:=kl s.gr.l s.gr.h ho.gr.h ho.gr.le 7 x.frame 2
 generalize hq1:kx s.gr.l 7 x.frame 1=q1 at *
 generalize hq2:kx s.gr.l 7 x.frame 2=q2 at *
 obtain⟨dev,tag,frame,xw⟩:=x
 dsimp only at h1 h2 hq1 hq2 ⊢
 cases xw
 · rw[show(if false=true then (2:Int) else 1)=1 from rfl,hq1]
   refine ah.aK ae Tryz.func125 rfl (by decide) (n:=Tryz.f125.ntmps - 2) rfl rfl fun w0 av=>?_
   conv=>whnf
   repeat (refine aa.of ?_;conv=>whnf)
   intro b1
   conv=>whnf
   repeat (refine aa.of ?_;conv=>whnf)
   refine ar.aj (ak.aE ae rfl rfl (ad:=⟨b,0,none⟩) (k:=271) (L:=C) (v:=s.gr.v) (.fact fun w hw=>hw.1) (fun _=>rfl) hC.gr ?_)
   conv=>whnf
   repeat (refine aa.of ?_;conv=>whnf)
   refine aw.val h1 (fun w hw=>hw.2) (fun v D hv=>?_)
   subst hv
   conv=>whnf
   repeat (refine aa.of ?_;conv=>whnf)
   exact⟨_,ao.refl _,rfl⟩
 · rw[show(if true=true then (2:Int) else 1)=2 from rfl,hq2]
   refine ah.aK ae Tryz.func125 rfl (by decide) (n:=Tryz.f125.ntmps - 2) rfl rfl fun w0 av=>?_
   conv=>whnf
   repeat (refine aa.of ?_;conv=>whnf)
   intro b1
   conv=>whnf
   repeat (refine aa.of ?_;conv=>whnf)
   refine ar.aj (ak.aE ae rfl rfl (ad:=⟨b,0,none⟩) (k:=271) (L:=C) (v:=s.gr.v) (.fact fun w hw=>hw.1) (fun _=>rfl) hC.gr ?_)
   conv=>whnf
   repeat (refine aa.of ?_;conv=>whnf)
   refine aw.val h2 (fun w hw=>hw.2) (fun v D hv=>?_)
   subst hv
   conv=>whnf
   repeat (refine aa.of ?_;conv=>whnf)
   exact⟨_,ao.refl _,rfl⟩
def r4 (s:bR):Bool:=!(s.wi.l.any fun x=>!kx s.gr.l 7 x.frame (if x.w then 2 else 1))
theorem oO (C:List Value) (s:bR) (hC:dM C s) (ho:s.Ok):ah Tryz.prog 68 [.agg ⟨C⟩] s.Rows (fun v F=>v = .bool (r4 s)):=by
 have hb : ∀ b:Nat,_:=fun b=>oP bc (fun _=>rfl) 125 (fun w=>af w (some ⟨b,0,none⟩) C∧s.gr.At b_ w) (fun x=>!kx s.gr.l 7 x.frame (if x.w then 2 else 1)) (.pointer (some ⟨b,0,none⟩)) s.wi.l s.wi.h ho.wi.h ho.wi.le (fun e _=>rP C s hC ho b e)
 unfold r4
 generalize (s.wi.l.any fun x=>!kx s.gr.l 7 x.frame (if x.w then 2 else 1))=q at *
 refine ah.aK ae Tryz.func68 rfl (by decide) (n:=Tryz.f68.ntmps - 1) rfl rfl fun w0 av=>?_
 conv=>whnf
 repeat (refine aa.of ?_;conv=>whnf)
 refine ar.cA fun br=>?_
 conv=>whnf
 repeat (refine aa.of ?_;conv=>whnf)
 refine ar.aj (ak.aE ae rfl rfl (ad:=⟨br,0,none⟩) (k:=307) (L:=C) (v:=s.wi.v) (aG.row (by simp[Value.cells])) (fun _=>rfl) hC.wi ?_)
 conv=>whnf
 repeat (refine aa.of ?_;conv=>whnf)
 refine aw.look (hb br) ((Loc.row _ _).and ((Loc.row _ _).and (Loc.row _ _))) (fun w hst=>⟨hst.now.wi,aG.row (b:=br) (C:=C) (by simp[Value.cells]) w hst,hst.now.gr⟩) ?_
 conv=>whnf
 repeat (refine aa.of ?_;conv=>whnf)
 exact⟨_,ao.refl _,rfl⟩
theorem wK {α:Type} (cf:α→List Value) (hz : ∀ x,(cf x).length=3) (f:FuncId) (Pre:World→Prop) (p:α→Bool) (u0:Value) (l:List α) (h:Hd) (hh:h.Ok l.length) (hl:l.length≤140737488355328) (hf : ∀ e∈l,ah Tryz.prog f [.agg ⟨cf e⟩,u0] Pre (fun v F=>v = .bool (p e))) :
 ah Tryz.prog 212 [h.v l.length,.func (.func f) #[] #[u0]] (fun w=>af w h.a (l.flatMap cf)∧Pre w) (fun v F=>v = .int .i64 (ef (l.findIdx? p))):=by
 refine ah.aK ae Tryz.func212 rfl (by decide) (n:=Tryz.f212.ntmps - 2) rfl rfl fun w0 av=>?_
 conv=>whnf
 refine az.loop ae (ι:=Nat) ([5]++List.range' 8 11) (fun x=>x≤l.length∧∀ j (hj:j<l.length),j<x→p l[j]=false)
  (fun x=>[(8,.v (.int .i64 (x:Int)))]) (fun _=>[]) (fun _=>⟨fun w=>af w h.a (l.flatMap cf)∧Pre w,[]⟩)
  (fun x=>l.length - x) 0 ⟨Nat.zero_le _,fun j hj h=>by omega⟩ ?_ rfl (ao.refl _) fun i hi=>?_
 · conv=>whnf
   repeat (first | exact ax.nil | refine ax.any ?_ | refine ax.cons ?_)
 obtain⟨hi,hall⟩:=hi
 conv=>whnf
 refine bT.split (fun hlt=>?_) (fun hlt=>?_)
 · have hlt':i<l.length:=by
    simp only[au,decide_eq_true_eq] at hlt
    omega
   conv=>whnf
   repeat (refine aa.of ?_;conv=>whnf)
   refine ar.aj (ak.index ae (t:=88) rfl rfl rfl (by omega) (by omega) hh.nil fun ad had=>?_)
   conv=>whnf
   repeat (refine aa.of ?_;conv=>whnf)
   refine ar.aj (ak.aU ae (t:=166) rfl rfl (ad:=ad) (k:=i*3) (L:=l.flatMap cf) (m:=cf l[i]) (.fact fun w hw=>had ▸ hw.1) (by simp) (bj hz hlt') (hz _) ?_)
   conv=>whnf
   repeat (refine aa.of ?_;conv=>whnf)
   refine aw.val (hf _ (List.getElem_mem hlt')) (fun w hw=>hw.2) (fun v D hv=>?_)
   generalize hq:p l[i]=q at hv
   subst hv
   cases q
   · conv=>whnf
     repeat (refine aa.of ?_;conv=>whnf)
     refine⟨i+1,⟨⟨hlt',fun j hj h=>?_⟩,by dsimp only;omega⟩,?_,?_,ao.refl _⟩
     · rcases Nat.lt_or_eq_of_le (Nat.lt_succ_iff.1 h) with h5 | h5
       · exact hall j hj h5
       · subst h5
         exact hq
     · conv=>whnf
       refine⟨?_,rfl⟩
       repeat (first | exact ax.nil | refine ax.any ?_ | refine ax.cons ?_ | refine ax.eq (by rw[wrap_i64 (by omega)];rfl) ?_)
     · conv=>whnf
       exact trivial
   · conv=>whnf
     repeat (refine aa.of ?_;conv=>whnf)
     refine⟨_,ao.refl _,?_⟩
     have:l.findIdx? p=some i:=by
      rw[List.findIdx?_eq_some_iff_getElem]
      exact⟨hlt',hq,fun j hj=>by simpa using hall j (by omega) hj⟩
     rw[this]
     rfl
 · have hie:i=l.length:=by
    simp only[au,decide_eq_false_iff_not] at hlt
    omega
   subst hie
   conv=>whnf
   repeat (refine aa.of ?_;conv=>whnf)
   refine⟨_,ao.refl _,?_⟩
   have:l.findIdx? p=none:=by
    rw[List.findIdx?_eq_none_iff]
    intro x hx
    obtain⟨j,hj,rfl⟩:=List.getElem_of_mem hx
    simpa using hall j hj hj
   rw[this]
   rfl
theorem wR {α:Type} (cf:α→List Value) (hz : ∀ x,(cf x).length=3) (f:FuncId) (Pre:World→Prop) (p:α→Bool) (u0:Value) (l:List α) (h:Hd) (hh:h.Ok l.length) (hl:l.length≤140737488355328) (hf : ∀ e∈l,ah Tryz.prog f [.agg ⟨cf e⟩,u0] Pre (fun v F=>v = .bool (p e))) :
 ah Tryz.prog 136 [h.v l.length,.func (.func f) #[] #[u0]] (fun w=>af w h.a (l.flatMap cf)∧Pre w) (fun v F=>v = .bool (l.any p)):=by
 have hi:=wK cf hz f Pre p u0 l h hh hl hf
 have hv:=da l p
 generalize ef (l.findIdx? p)=j at *
 refine ah.aK ae Tryz.func136 rfl (by decide) (n:=Tryz.f136.ntmps - 2) rfl rfl fun w0 av=>?_
 conv=>whnf
 repeat (refine aa.of ?_;conv=>whnf)
 refine aw.val hi (fun w hw=>hw) (fun v D hv=>?_)
 subst hv
 conv=>whnf
 repeat (refine aa.of ?_;conv=>whnf)
 exact⟨_,ao.refl _,by rw[← hv,aI]⟩
theorem xG {α:Type} (cf:α→List Value) (hz : ∀ x,(cf x).length=6) (f:FuncId) (Pre:World→Prop) (p:α→Bool) (l:List α) (h:Hd) (hh:h.Ok l.length) (hl:l.length≤140737488355328) (hf : ∀ e∈l,ah Tryz.prog f [.agg ⟨cf e⟩] Pre (fun v F=>v = .bool (p e))) :
 ah Tryz.prog 213 [h.v l.length,.func (.func f) #[] #[]] (fun w=>af w h.a (l.flatMap cf)∧Pre w) (fun v F=>v = .int .i64 (ef (l.findIdx? p))):=by
 refine ah.aK ae Tryz.func213 rfl (by decide) (n:=Tryz.f213.ntmps - 2) rfl rfl fun w0 av=>?_
 conv=>whnf
 refine az.loop ae (ι:=Nat) ([5]++List.range' 8 11) (fun x=>x≤l.length∧∀ j (hj:j<l.length),j<x→p l[j]=false)
  (fun x=>[(8,.v (.int .i64 (x:Int)))]) (fun _=>[]) (fun _=>⟨fun w=>af w h.a (l.flatMap cf)∧Pre w,[]⟩)
  (fun x=>l.length - x) 0 ⟨Nat.zero_le _,fun j hj h=>by omega⟩ ?_ rfl (ao.refl _) fun i hi=>?_
 · conv=>whnf
   repeat (first | exact ax.nil | refine ax.any ?_ | refine ax.cons ?_)
 obtain⟨hi,hall⟩:=hi
 conv=>whnf
 refine bT.split (fun hlt=>?_) (fun hlt=>?_)
 · have hlt':i<l.length:=by
    simp only[au,decide_eq_true_eq] at hlt
    omega
   conv=>whnf
   repeat (refine aa.of ?_;conv=>whnf)
   refine ar.aj (ak.index ae (t:=71) rfl rfl rfl (by omega) (by omega) hh.nil fun ad had=>?_)
   conv=>whnf
   repeat (refine aa.of ?_;conv=>whnf)
   refine ar.aj (ak.aU ae (t:=222) rfl rfl (ad:=ad) (k:=i*6) (L:=l.flatMap cf) (m:=cf l[i]) (.fact fun w hw=>had ▸ hw.1) (by simp) (bj hz hlt') (hz _) ?_)
   conv=>whnf
   repeat (refine aa.of ?_;conv=>whnf)
   refine aw.val (hf _ (List.getElem_mem hlt')) (fun w hw=>hw.2) (fun v D hv=>?_)
   generalize hq:p l[i]=q at hv
   subst hv
   cases q
   · conv=>whnf
     repeat (refine aa.of ?_;conv=>whnf)
     refine⟨i+1,⟨⟨hlt',fun j hj h=>?_⟩,by dsimp only;omega⟩,?_,?_,ao.refl _⟩
     · rcases Nat.lt_or_eq_of_le (Nat.lt_succ_iff.1 h) with h5 | h5
       · exact hall j hj h5
       · subst h5
         exact hq
     · conv=>whnf
       refine⟨?_,rfl⟩
       repeat (first | exact ax.nil | refine ax.any ?_ | refine ax.cons ?_ | refine ax.eq (by rw[wrap_i64 (by omega)];rfl) ?_)
     · conv=>whnf
       exact trivial
   · conv=>whnf
     repeat (refine aa.of ?_;conv=>whnf)
     refine⟨_,ao.refl _,?_⟩
     have:l.findIdx? p=some i:=by
      rw[List.findIdx?_eq_some_iff_getElem]
      exact⟨hlt',hq,fun j hj=>by simpa using hall j (by omega) hj⟩
     rw[this]
     rfl
 · have hie:i=l.length:=by
    simp only[au,decide_eq_false_iff_not] at hlt
    omega
   subst hie
   conv=>whnf
   repeat (refine aa.of ?_;conv=>whnf)
   refine⟨_,ao.refl _,?_⟩
   have:l.findIdx? p=none:=by
    rw[List.findIdx?_eq_none_iff]
    intro x hx
    obtain⟨j,hj,rfl⟩:=List.getElem_of_mem hx
    simpa using hall j hj hj
   rw[this]
   rfl
theorem xC {α:Type} (cf:α→List Value) (hz : ∀ x,(cf x).length=6) (f:FuncId) (Pre:World→Prop) (p:α→Bool) (l:List α) (h:Hd) (hh:h.Ok l.length) (hl:l.length≤140737488355328) (hf : ∀ e∈l,ah Tryz.prog f [.agg ⟨cf e⟩] Pre (fun v F=>v = .bool (p e))) :
 ah Tryz.prog 137 [h.v l.length,.func (.func f) #[] #[]] (fun w=>af w h.a (l.flatMap cf)∧Pre w) (fun v F=>v = .bool (l.any p)):=by
 have hi:=xG cf hz f Pre p l h hh hl hf
 have hv:=da l p
 generalize ef (l.findIdx? p)=j at *
 refine ah.aK ae Tryz.func137 rfl (by decide) (n:=Tryz.f137.ntmps - 2) rfl rfl fun w0 av=>?_
 conv=>whnf
 repeat (refine aa.of ?_;conv=>whnf)
 refine aw.val hi (fun w hw=>hw) (fun v D hv=>?_)
 subst hv
 conv=>whnf
 repeat (refine aa.of ?_;conv=>whnf)
 exact⟨_,ao.refl _,by rw[← hv,aI]⟩
theorem uv (C:List Value) (s:bR) (hC:dM C s) (b:Nat) (x:Ti):ah Tryz.prog 134 [.agg ⟨cj x⟩,.pointer (some ⟨b,0,none⟩)]
 (fun w=>af w (some ⟨b,0,none⟩) C) (fun v F=>v = .bool (mX x.due s.now)):=by
 refine ah.aK ae Tryz.func134 rfl (by decide) (n:=Tryz.f134.ntmps - 2) rfl rfl fun w0 av=>?_
 conv=>whnf
 repeat (refine aa.of ?_;conv=>whnf)
 intro b1
 conv=>whnf
 repeat (refine aa.of ?_;conv=>whnf)
 refine ar.aj (ak.aE ae rfl rfl (ad:=⟨b,0,none⟩) (k:=365) (L:=C) (v:=.int .i64 s.now) (.fact fun w hw=>hw) (fun _=>rfl) (cellOf hC.ck (j:=0) (by decide) rfl) ?_)
 conv=>whnf
 repeat (refine aa.of ?_;conv=>whnf)
 exact⟨_,ao.refl _,rfl⟩
def lO (x:Acc):Bool:=lz x.frame 0||(gQ x.frame 96||(lz x.frm 0||(lz x.len 1||(mr x.frm 128||mr x.len (IntKind.i64.wrap (128 - x.frm))))))
theorem uy (x:Acc):ah Tryz.prog 135 [.agg ⟨vW x⟩] (fun _=>True) (fun v F=>v = .bool (lO x)):=by
 unfold lO
 refine ah.aK ae Tryz.func135 rfl (by decide) (n:=Tryz.f135.ntmps - 1) rfl rfl fun w0 av=>?_
 conv=>whnf
 repeat (refine aa.of ?_;conv=>whnf)
 intro b1
 conv=>whnf
 repeat (refine aa.of ?_;conv=>whnf)
 repeat' (first
  | (refine And.intro ?_ ?_<;>conv=>whnf)
  | (refine an.same rfl ?_;conv=>whnf)
  | (refine an.row rfl ?_;conv=>whnf)
  | (refine an.call rfl ?_;conv=>whnf)
  | (refine aS.of ?_;conv=>whnf)
  | (refine aa.of ?_;conv=>whnf)
  | (split<;>conv=>whnf)
  | (refine an.mk ?_ ?_;(focus (first | exact ao.refl _ | exact ao.left _ _ | exact ao.of_le ⟨List.sublist_append_left _ _,fun w h=>h⟩ | exact ao.of_le ⟨List.Sublist.refl _,fun w h=>h.1⟩));conv=>whnf))
 all_goals refine⟨_,ao.refl _,?_⟩
 all_goals first | rfl | (congr 1;simp[Bool.or_assoc];done) | (congr 1;simp_all;done)
def sN (s:bR):Bool:=bJ s.lk.now s.now&&(!(s.ti.l.any fun t=>mX t.due s.now) && !(s.ac.l.any lO))
theorem ug (C:List Value) (s:bR) (hC:dM C s) (ho:s.Ok):ah Tryz.prog 74 [.agg ⟨C⟩] s.Rows (fun v F=>v = .bool (sN s)):=by
 have hb : ∀ b:Nat,_:=fun b=>wR cj (fun _=>rfl) 134 (fun w=>af w (some ⟨b,0,none⟩) C) (fun x=>mX x.due s.now) (.pointer (some ⟨b,0,none⟩)) s.ti.l s.ti.h ho.ti.h ho.ti.le (fun e _=>uv C s hC b e)
 have ha:=xC vW (fun _=>rfl) 135 (fun _=>True) lO s.ac.l s.ac.h ho.ac.h ho.ac.le (fun e _=>uy e)
 unfold sN
 generalize (s.ti.l.any fun t=>mX t.due s.now)=q1 at *
 generalize s.ac.l.any lO=q2 at *
 refine ah.aK ae Tryz.func74 rfl (by decide) (n:=Tryz.f74.ntmps - 1) rfl rfl fun w0 av=>?_
 conv=>whnf
 repeat (refine aa.of ?_;conv=>whnf)
 refine ar.cA fun br=>?_
 conv=>whnf
 repeat (refine aa.of ?_;conv=>whnf)
 repeat' (first
  | (refine And.intro ?_ ?_<;>conv=>whnf)
  | (refine an.same rfl ?_;conv=>whnf)
  | (refine an.row rfl ?_;conv=>whnf)
  | (refine an.call rfl ?_;conv=>whnf)
  | (refine aS.of ?_;conv=>whnf)
  | (refine aa.of ?_;conv=>whnf)
  | (refine ar.aj (ak.aE ae rfl rfl (ad:=⟨br,0,none⟩) (k:=323) (L:=C) (v:=.int .i64 s.lk.now) (aG.row (by simp[Value.cells])) (fun _=>rfl) (cellOf hC.lk (j:=1) (by decide) rfl) ?_);conv=>whnf)
  | (refine ar.aj (ak.aE ae rfl rfl (ad:=⟨br,0,none⟩) (k:=365) (L:=C) (v:=.int .i64 s.now) (aG.row (by simp[Value.cells])) (fun _=>rfl) (cellOf hC.ck (j:=0) (by decide) rfl) ?_);conv=>whnf)
  | (refine ar.aj (ak.aE ae rfl rfl (ad:=⟨br,0,none⟩) (k:=272) (L:=C) (v:=s.ti.v) (aG.row (by simp[Value.cells])) (fun _=>rfl) hC.ti ?_);conv=>whnf)
  | (refine ar.aj (ak.aE ae rfl rfl (ad:=⟨br,0,none⟩) (k:=374) (L:=C) (v:=s.ac.v) (aG.row (by simp[Value.cells])) (fun _=>rfl) hC.ac ?_);conv=>whnf)
  | (refine aw.look (hb br) ((Loc.row _ _).and (Loc.row _ _)) (fun w hst=>⟨hst.now.ti,aG.row (b:=br) (C:=C) (by simp[Value.cells]) w hst⟩) ?_;conv=>whnf)
  | (refine aw.val ha (fun w hw=>⟨hw.ac,trivial⟩) (fun v D hv=>?_);subst hv;conv=>whnf)
  | (split<;>conv=>whnf)
  | (refine an.mk ?_ ?_;(focus (first | exact ao.refl _ | exact ao.left _ _ | exact ao.of_le ⟨List.sublist_append_left _ _,fun w h=>h⟩ | exact ao.of_le ⟨List.Sublist.refl _,fun w h=>h.1⟩));conv=>whnf))
 all_goals refine⟨_,ao.refl _,?_⟩
 all_goals first | rfl | (simp only[*,if_true,if_false,cond_true,cond_false,Bool.false_eq_true,Bool.and_true,Bool.true_and,Bool.and_false,Bool.false_and,Bool.or_true,Bool.true_or,Bool.or_false,Bool.false_or];done) | (simp_all;done)
theorem ux (x:Cp) (b o:Nat) (i:Int):ah Tryz.prog 122 [.agg ⟨bB x⟩,.pointer (some ⟨b,o,none⟩)] (fun w=>af w (some ⟨b,o,none⟩) [.int .i64 i]) (fun v F=>v = .bool (bJ x.owner i)):=by
 refine ah.aK ae Tryz.func122 rfl (by decide) (n:=Tryz.f122.ntmps - 2) rfl rfl fun w0 av=>?_
 conv=>whnf
 repeat (refine aa.of ?_;conv=>whnf)
 intro b1
 conv=>whnf
 repeat (refine aa.of ?_;conv=>whnf)
 refine ar.aj (ak.aE ae rfl rfl (ad:=⟨b,o,none⟩) (k:=0) (L:=[.int .i64 i]) (v:=.int .i64 i) (.fact fun w hw=>hw) (fun _=>rfl) rfl ?_)
 conv=>whnf
 repeat (refine aa.of ?_;conv=>whnf)
 exact⟨_,ao.refl _,rfl⟩
def rb:List Int:=[3,4,5,10]
def pX (s:bR) (i:Nat):Bool:=if tH s.T i then rb.all (fun to=>eO s.cp.l (i:Int) ⟨1,to,1⟩) else !(s.cp.l.any fun c=>bJ c.owner (i:Int))
def tB (s:bR):Bool:=allI 16 fun k=>pX s (16+k)
theorem rA {s:bR} (h : ∀ j,16≤j→j<32→pX s j=true):tB s=true:=bH fun j hj=>h _ (by omega) (by omega)
theorem km {s:bR} {i:Nat} (h1:16≤i) (h2:i<32) (h:pX s i=false):tB s=false:=aZ (j:=i - 16) (by omega) (by rw[show 16+(i - 16)=i from by omega];exact h)
theorem pR (C:List Value) (s:bR) (hC:dM C s) (ho:s.Ok):ah Tryz.prog 65 [.agg ⟨C⟩] s.Rows (fun v F=>v = .bool (tB s)):=by
 refine ah.aK ae Tryz.func65 rfl (by decide) (n:=Tryz.f65.ntmps - 1) rfl rfl fun w0 av=>?_
 conv=>whnf
 repeat (refine aa.of ?_;conv=>whnf)
 refine ar.cA fun br=>?_
 conv=>whnf
 repeat (refine aa.of ?_;conv=>whnf)
 intro b3
 conv=>whnf
 repeat (refine aa.of ?_;conv=>whnf)
 refine az.zm ae (ι:=Nat) (bs0:=[]) (List.range' 3 33) (fun x=>16≤x∧x≤32∧∀ j,16≤j→j<x→pX s j=true)
  (fun x=>[(3,.p 0 0)]) (fun _=>[]) (fun x=>[.int .i64 (x:Int)]) (fun _=>⟨s.Rows,[(br,Row.c C)]⟩)
  (fun x=>32 - x) 16 ⟨Nat.le_refl _,by omega,fun j h=>by omega⟩ ?_ rfl (ao.of_le ⟨by simp[Value.cells],fun w hw=>hw⟩) fun i hi b o=>?_
 · conv=>whnf
   repeat (first | exact ax.nil | refine ax.any ?_ | refine ax.cons ?_)
 obtain⟨hi1,hi,hall⟩:=hi
 conv=>whnf
 repeat (refine aa.of ?_;conv=>whnf)
 refine bT.split (fun hlt=>?_) (fun hlt=>?_)
 · have hlt':i<32:=by
    simp[au] at hlt
    omega
   have h2:=eZ C s.T hC.u4 i hlt'
   have hok:pX s i=(if tH s.T i then rb.all (fun to=>eO s.cp.l (i:Int) ⟨1,to,1⟩) else !(s.cp.l.any fun c=>bJ c.owner (i:Int))):=rfl
   have hnext:pX s i=true→∀ j,16≤j→j<i+1→pX s j=true:=fun hs j hj1 hj=>by
    rcases Nat.lt_or_eq_of_le (Nat.lt_succ_iff.1 hj) with h5 | h5
    · exact hall j hj1 h5
    · exact h5 ▸ hs
   rw[show kr (s.T i).kind 0=tH s.T i from rfl] at h2
   generalize tH s.T i=q1 at *
   conv=>whnf
   repeat (refine aa.of ?_;conv=>whnf)
   refine ar.aj (ak.aU ae rfl rfl (ad:=⟨br,0,none⟩) (k:=0) (L:=C) (m:=C) (aG.row (by simp[Value.cells])) rfl (by rw[List.drop_zero];exact List.take_of_length_le (by rw[hC.len];exact Nat.le_refl _)) hC.len ?_)
   conv=>whnf
   repeat (refine aa.of ?_;conv=>whnf)
   refine aw.val h2 (fun w hw=>trivial) (fun v D hv=>?_)
   subst hv
   cases q1
   · have hb:=vw bB (fun _=>rfl) 122 (fun w=>af w (some ⟨b,o,none⟩) [.int .i64 (i:Int)]) (fun x=>bJ x.owner (i:Int)) (.pointer (some ⟨b,o,none⟩)) s.cp.l s.cp.h ho.cp.h ho.cp.le (fun e _=>ux e b o i)
     generalize (s.cp.l.any fun x=>bJ x.owner (i:Int))=q2 at *
     conv=>whnf
     repeat (refine aa.of ?_;conv=>whnf)
     refine ar.aj (ak.aE ae rfl rfl (ad:=⟨br,0,none⟩) (k:=270) (L:=C) (v:=s.cp.v) (aG.row (by simp[Value.cells])) (fun _=>rfl) (cellOf hC.ca (j:=1) (by decide) rfl) ?_)
     conv=>whnf
     repeat (refine aa.of ?_;conv=>whnf)
     refine aw.look hb ((Loc.row _ _).and (Loc.row _ _)) (fun w hst=>⟨hst.now.cp,aG.box 0 rfl (by simp) rfl w hst⟩) ?_
     cases q2
     · conv=>whnf
       repeat (refine aa.of ?_;conv=>whnf)
       intro b5
       conv=>whnf
       repeat (refine aa.of ?_;conv=>whnf)
       refine⟨i+1,⟨⟨by omega,hlt',hnext (by rw[hok];rfl)⟩,by dsimp only;omega⟩,1,⟨by simp,by simp,?_⟩,?_,?_,ao.refl _⟩
       · show[Value.int .i64 _] = [Value.int .i64 _]
         rw[wrap_i64 (by omega)]
         rfl
       · conv=>whnf
         repeat (first | exact ax.nil | refine ax.any ?_ | refine ax.cons ?_)
       · conv=>whnf
         exact trivial
     · conv=>whnf
       repeat (refine aa.of ?_;conv=>whnf)
       exact⟨_,ao.refl _,by rw[km hi1 hlt' (by rw[hok];rfl)]⟩
   · conv=>whnf
     repeat (refine aa.of ?_;conv=>whnf)
     refine ar.build ae (t:=38) rfl rfl rfl (rb.map bL) rfl rfl (by intro v hv;simp[rb,bL] at hv;rcases hv with rfl | rfl | rfl | rfl<;>rfl) (by decide) fun b5=>?_
     conv=>whnf
     repeat (refine aa.of ?_;conv=>whnf)
     refine az.loop ae (ι:=Nat) (5::List.range' 22 14) (fun x=>x≤4∧∀ j,j<x→eO s.cp.l (i:Int) ⟨1,rb[j]!,1⟩=true)
      (fun x=>[(22,.v (.int .i64 (x:Int)))]) (fun _=>[[.int .i64 (i:Int)]]) (fun _=>⟨s.Rows,[(br,Row.c C),(b5,Row.c (rb.map bL))]⟩)
      (fun x=>4 - x) 0 ⟨Nat.zero_le _,fun j h=>by omega⟩ ?_ rfl (ao.of_le ⟨List.Sublist.refl _,fun w hw=>hw⟩) fun k hk=>?_
     · conv=>whnf
       repeat (first | exact ax.nil | refine ax.any ?_ | refine ax.cons ?_)
     obtain⟨hk,hallk⟩:=hk
     conv=>whnf
     repeat (refine aa.of ?_;conv=>whnf)
     refine bT.split (fun hlt2=>?_) (fun hlt2=>?_)
     · have hk':k<4:=by
        simp[au] at hlt2
        omega
       have h3:=iP s.nx s.cp.l s.cp.h ho.cp.h ho.cp.le (i:Int) ⟨1,rb[k]!,1⟩
       obtain⟨q3,hq3⟩ : ∃ q,eO s.cp.l (i:Int) ⟨1,rb[k]!,1⟩=q:=⟨_,rfl⟩
       rw[hq3] at h3
       obtain⟨to,hto⟩ : ∃ x,rb[k]! = x:=⟨_,rfl⟩
       have hget:(rb.map bL)[k]? = some (.int .i64 to):=by
        rw[List.getElem?_map,List.getElem?_eq_getElem (by simpa [rb] using hk'),← hto,cm (by simpa [rb] using hk')]
        rfl
       rw[hto] at h3
       conv=>whnf
       repeat (refine aa.of ?_;conv=>whnf)
       refine ar.aj (ak.index ae (t:=38) rfl rfl rfl (by omega) (by omega) (by simp) fun ad had=>?_)
       conv=>whnf
       repeat (refine aa.of ?_;conv=>whnf)
       refine ar.aj (ak.aE ae rfl rfl (ad:=⟨b5,0,none⟩) (k:=k) (L:=rb.map bL) (v:=.int .i64 to) (aG.row (by simp[Value.cells])) (fun _=>by cases had;simp) hget ?_)
       conv=>whnf
       repeat (refine aa.of ?_;conv=>whnf)
       refine ar.aj (ak.aU ae rfl rfl (ad:=⟨br,0,none⟩) (k:=269) (L:=C) (m:=[.int .i64 s.nx,s.cp.v]) (aG.row (by simp[Value.cells])) rfl hC.ca rfl ?_)
       conv=>whnf
       repeat (refine aa.of ?_;conv=>whnf)
       refine aw.val h3 (fun w hw=>hw.cp) (fun v D hv=>?_)
       subst hv
       cases q3
       · conv=>whnf
         repeat (refine aa.of ?_;conv=>whnf)
         exact⟨_,ao.refl _,by rw[km hi1 hlt' (by
          rw[hok,if_pos rfl,List.all_eq_false]
          exact⟨rb[k]!,by rw[cm (by simpa [rb] using hk')];exact List.getElem_mem _,by rw[hq3];decide⟩)]⟩
       · conv=>whnf
         repeat (refine aa.of ?_;conv=>whnf)
         refine⟨k+1,⟨⟨hk',fun j hj=>?_⟩,by dsimp only;omega⟩,?_,?_,ao.refl _⟩
         · rcases Nat.lt_or_eq_of_le (Nat.lt_succ_iff.1 hj) with h5 | h5
           · exact hallk j h5
           · exact h5 ▸ hq3
         · conv=>whnf
           refine⟨?_,rfl⟩
           repeat (first | exact ax.nil | refine ax.any ?_ | refine ax.cons ?_ | refine ax.eq (by rw[wrap_i64 (by omega)];rfl) ?_)
         · conv=>whnf
           exact⟨⟨rfl,rfl⟩,trivial⟩
     · have hke:k=4:=by
        simp[au] at hlt2
        omega
       subst hke
       have hr:pX s i=true:=by
        rw[hok,if_pos rfl,List.all_eq_true]
        intro x hx
        obtain⟨j,hj,rfl⟩:=List.getElem_of_mem hx
        have:=hallk j (by simpa [rb] using hj)
        rwa [cm hj] at this
       conv=>whnf
       repeat (refine aa.of ?_;conv=>whnf)
       intro b6
       conv=>whnf
       repeat (refine aa.of ?_;conv=>whnf)
       refine⟨i+1,⟨⟨by omega,hlt',hnext hr⟩,by dsimp only;omega⟩,1,⟨by simp,by simp,?_⟩,?_,?_,ao.of_le ⟨by simp[Value.cells],fun w hw=>hw⟩⟩
       · show[Value.int .i64 _] = [Value.int .i64 _]
         rw[wrap_i64 (by omega)]
         rfl
       · conv=>whnf
         repeat (first | exact ax.nil | refine ax.any ?_ | refine ax.cons ?_)
       · conv=>whnf
         exact trivial
 · have hie:i=32:=by
    simp[au] at hlt
    omega
   subst hie
   conv=>whnf
   repeat (refine aa.of ?_;conv=>whnf)
   exact⟨_,ao.refl _,by rw[rA hall]⟩
end Go.Proofs.YtlnhdpjnlffaoaaGreatDoor
namespace Go.Proofs
open Go.Shelf
def Tryz.pH:Go.Shelf.Ren:=⟨fun | 189=>205 | 125=>239 | 257=>238 | 128=>255 | 129=>256 | 294=>246 | 295=>247 | 296=>248 | 297=>249 | 298=>250 | 299=>251 | 216=>252 | 300=>253 | 301=>254 | 328=>258 | 329=>259 | 330=>260 | 331=>261 | 332=>262 | 215=>244 | 343=>263 | n=>n,fun | 28=>38 | 3=>3 | 46=>360 | 0=>0 | 51=>372 | 53=>374 | 4=>4 | 183=>366 | 182=>365 | 131=>126 | 5=>5 | 9=>9 | 218=>377 | 222=>381 | 228=>383 | 229=>384 | n=>n,fun | n=>n⟩
theorem Tryz.tE:Go.Proofs.Lays.n189 Tryz.prog Tryz.pH:={
 mixed:=by kernel_rfl
 f125:=Tryz.func239.trans (congrArg some (by kernel_rfl))
 f128:=Tryz.func255.trans (congrArg some (by kernel_rfl))
 f129:=Tryz.func256.trans (congrArg some (by kernel_rfl))
 f189:=Tryz.func205.trans (congrArg some (by kernel_rfl))
 f215:=Tryz.func244.trans (congrArg some (by kernel_rfl))
 f216:=Tryz.func252.trans (congrArg some (by kernel_rfl))
 f257:=Tryz.func238.trans (congrArg some (by kernel_rfl))
 f294:=Tryz.func246.trans (congrArg some (by kernel_rfl))
 f295:=Tryz.func247.trans (congrArg some (by kernel_rfl))
 f296:=Tryz.func248.trans (congrArg some (by kernel_rfl))
 f297:=Tryz.func249.trans (congrArg some (by kernel_rfl))
 f298:=Tryz.func250.trans (congrArg some (by kernel_rfl))
 f299:=Tryz.func251.trans (congrArg some (by kernel_rfl))
 f300:=Tryz.func253.trans (congrArg some (by kernel_rfl))
 f301:=Tryz.func254.trans (congrArg some (by kernel_rfl))
 f328:=Tryz.func258.trans (congrArg some (by kernel_rfl))
 f329:=Tryz.func259.trans (congrArg some (by kernel_rfl))
 f330:=Tryz.func260.trans (congrArg some (by kernel_rfl))
 f331:=Tryz.func261.trans (congrArg some (by kernel_rfl))
 f332:=Tryz.func262.trans (congrArg some (by kernel_rfl))
 f343:=Tryz.func263.trans (congrArg some (by kernel_rfl))
 t0:=Tryz.underlying0
 a0:=Tryz.isAgg0
 z0:=Tryz.sizeOf0
 v0:=Tryz.zeroValue0
 t3:=Tryz.underlying3
 a3:=Tryz.isAgg3
 z3:=Tryz.sizeOf3
 v3:=Tryz.zeroValue3
 t4:=Tryz.underlying4
 a4:=Tryz.isAgg4
 z4:=Tryz.sizeOf4
 v4:=Tryz.zeroValue4
 t5:=Tryz.underlying5
 a5:=Tryz.isAgg5
 z5:=Tryz.sizeOf5
 v5:=Tryz.zeroValue5
 t9:=Tryz.underlying9
 a9:=Tryz.isAgg9
 z9:=Tryz.sizeOf9
 v9:=Tryz.zeroValue9
 t28:=Tryz.underlying38
 a28:=Tryz.isAgg38
 z28:=Tryz.sizeOf38
 v28:=Tryz.zeroValue38
 t46:=Tryz.underlying360
 a46:=Tryz.isAgg360
 z46:=Tryz.sizeOf360
 v46:=Tryz.zeroValue360
 t51:=Tryz.underlying372
 a51:=Tryz.isAgg372
 z51:=Tryz.sizeOf372
 v51:=Tryz.zeroValue372
 t53:=Tryz.underlying374
 a53:=Tryz.isAgg374
 z53:=Tryz.sizeOf374
 v53:=Tryz.zeroValue374
 t131:=Tryz.underlying126
 a131:=Tryz.isAgg126
 z131:=Tryz.sizeOf126
 v131:=Tryz.zeroValue126
 t182:=Tryz.underlying365
 a182:=Tryz.isAgg365
 z182:=Tryz.sizeOf365
 v182:=Tryz.zeroValue365
 t183:=Tryz.underlying366
 a183:=Tryz.isAgg366
 z183:=Tryz.sizeOf366
 v183:=Tryz.zeroValue366
 t218:=Tryz.underlying377
 a218:=Tryz.isAgg377
 z218:=Tryz.sizeOf377
 v218:=Tryz.zeroValue377
 t222:=Tryz.underlying381
 a222:=Tryz.isAgg381
 z222:=Tryz.sizeOf381
 v222:=Tryz.zeroValue381
 t228:=Tryz.underlying383
 a228:=Tryz.isAgg383
 z228:=Tryz.sizeOf383
 v228:=Tryz.zeroValue383
 t229:=Tryz.underlying384
 a229:=Tryz.isAgg384
 z229:=Tryz.sizeOf384
 v229:=Tryz.zeroValue384 }
open Go.Sort Go.RowKit in
theorem Tryz.slices_Sort_int (blk off cap:Nat) (zs:List Int) (w:World) (hH:Holds (Value.int .i64) w blk off zs.toArray) (hblk:blk<w.heap.size) (hsz:zs.length<4611686018427387904) :
 Calls Tryz.prog 205 #[.slice (some ⟨blk,off,none⟩) zs.length cap] w fun e w'=>
  e = .returned (.tuple #[])∧∃ n os,w'=grow (putRow (Value.int .i64) (Sort.ahead w n) blk off (zs.mergeSort fun x y=>decide (x≤y)).toArray) os:=Any.slices_Sort_int Tryz.tE blk off cap zs w hH hblk hsz
def Tryz.nc:Go.Shelf.Ren:=⟨fun | 20=>206 | n=>n,fun | 22=>38 | 3=>3 | 4=>4 | 0=>0 | n=>n,fun | n=>n⟩
theorem Tryz.nP:Go.Proofs.Lays2.n20 Tryz.prog Tryz.nc:={
 mixed:=by kernel_rfl
 f20:=Tryz.func206.trans (congrArg some (by kernel_rfl))
 t0:=Tryz.underlying0
 a0:=Tryz.isAgg0
 z0:=Tryz.sizeOf0
 v0:=Tryz.zeroValue0
 t3:=Tryz.underlying3
 a3:=Tryz.isAgg3
 z3:=Tryz.sizeOf3
 v3:=Tryz.zeroValue3
 t4:=Tryz.underlying4
 a4:=Tryz.isAgg4
 z4:=Tryz.sizeOf4
 v4:=Tryz.zeroValue4
 t22:=Tryz.underlying38
 a22:=Tryz.isAgg38
 z22:=Tryz.sizeOf38
 v22:=Tryz.zeroValue38
 i3:=by kernel_rfl }
open Go.RowKit Go.Lib Go.Sort in
theorem Tryz.slices_Compact_int (blk off cap:Nat) (zs:List Int) (w:World) (hH:Holds (Value.int .i64) w blk off zs.toArray) (hsz:zs.length≤9223372036854775807) (hcap:zs.length≤cap) :
 Calls Tryz.prog 206 #[.slice (some ⟨blk,off,none⟩) zs.length cap] w fun e w'=>e = .returned (.slice (some ⟨blk,off,none⟩) (Lib.compact zs).length cap)∧∃ q,w'=putRow (Value.int .i64) (Sort.ahead w q) blk off (Lib.compact zs++List.replicate (zs.length - (Lib.compact zs).length) 0).toArray:=Any.slices_Compact_int Tryz.nP blk off cap zs w hH hsz hcap
open Go.RowKit Go.Lib Go.Sort in
theorem Tryz.slices_Compact_int_empty (a:Option Addr) (cap:Nat) (w:World) :
 Calls Tryz.prog 206 #[.slice a 0 cap] w fun e w'=>e = .returned (.slice a 0 cap)∧w'=w:=Any.slices_Compact_int_empty Tryz.nP a cap w
open Go.RowKit Go.Sort in
theorem Tryz.slices_Sort_int_none (p:Option Addr) (cap:Nat) (w:World) :
 Calls Tryz.prog 205 #[.slice p 0 cap] w fun e w'=>e = .returned (.tuple #[])∧w'=w:=Any.slices_Sort_int_none Tryz.tE p cap w
end Go.Proofs
namespace Go.Proofs.YtlnhdpjnlffaoaaGreatDoor
open Go Go.Sx
set_option maxRecDepth 100000
set_option maxHeartbeats 4000000
set_option linter.unusedVariables false
set_option linter.unusedSimpArgs false
theorem nX (zs:List Int) (x:Int):x∈Lib.compact zs↔x∈zs:=by
 unfold Lib.compact Lib.compactUpTo
 rw[List.mem_map]
 constructor
 · rintro⟨j,hj,rfl⟩
   have hl:=List.mem_range.1 (List.mem_filter.1 hj).1
   rw[show zs.toArray[j]! = zs[j] from by simp[hl]]
   exact List.getElem_mem hl
 · intro hx
   obtain⟨j,hj,rfl⟩:=List.getElem_of_mem hx
   induction j with
   | zero=>exact⟨0,List.mem_filter.2 ⟨List.mem_range.2 hj,Lib.keeps_lt_one _ _ (by decide)⟩,by simp[hj]⟩
   | succ j ih=>
    by_cases he:zs.toArray[j+1]! = zs.toArray[j]!
    · have hj':j<zs.length:=by omega
      have e:zs[j+1]=zs[j]:=by simpa [hj,hj'] using he
      rw[e]
      exact ih hj' (List.getElem_mem _)
    · exact⟨j+1,List.mem_filter.2 ⟨List.mem_range.2 hj,Lib.keeps_pos he⟩,by simp[hj]⟩
theorem lR (s:List Int) (C:List Value) (hs:s.length≤C.length) :
 Go.Sort.putCells (Value.int .i64) 0 s.toArray C.toArray=(s.map bL++C.drop s.length).toArray:=by
 apply Array.ext_getElem?
 intro k
 unfold Go.Sort.putCells
 rw[Array.getElem?_mapIdx]
 simp only[List.getElem?_toArray,List.size_toArray,Nat.zero_le,true_and,Nat.zero_add,Nat.sub_zero]
 by_cases hk:k<s.length
 · have hkC:k<C.length:=by omega
   rw[List.getElem?_append_left (by simpa using hk),List.getElem?_eq_getElem hkC]
   simp[hk,bL]
 · rw[List.getElem?_append_right (by simpa using Nat.le_of_not_lt hk),List.length_map,List.getElem?_drop,show s.length+(k - s.length)=k by omega]
   cases C[k]? with
   | none=>rfl
   | some x=>simp[hk]
theorem qP {f:FuncId} {fn:Func} (hfn:Tryz.prog.funcs[f]? = some fn) (hbody:fn.body.isSome=true) (hname:(fn.name == "runtime.NumGoroutine")=false) {vs:List Value} {v:Value} {b:Nat} {C:List Value} {s:List Int} (hs:s.length≤C.length) (Pre:World→Prop)
 (hcall : ∀ (w:World) (e:TypeId),w.heap[b]? = some (.cells C.toArray e (0,0))→Calls Tryz.prog f vs.toArray w fun r w'=>r = .returned v∧∃ n os,w'=Go.Sort.grow (Go.Sort.putRow (Value.int .i64) (Go.Sort.ahead w n) b 0 s.toArray) os) :
 cF Tryz.prog f vs [(b,Row.c C)] Pre (fun v' F=>v'=v∧F=⟨fun _=>True,[(b,Row.c (s.map bL++C.drop s.length))]⟩):=by
 unfold cF
 refine⟨⟨_,hfn,hbody,hname⟩,fun av w hav hrows hnd hpre=>?_⟩
 obtain⟨⟨e,hb⟩,hnav⟩:=hrows (b,Row.c C) (by simp)
 dsimp only at hb hnav
 have hblk:b<w.heap.size:=bu hb
 refine(hcall w e hb).mono ?_
 rintro r w' ⟨rfl,n,os,hw⟩
 subst hw
 have hnew:(Go.Sort.grow (Go.Sort.putRow (Value.int .i64) (Go.Sort.ahead w n) b 0 s.toArray) os).heap[b]? = some (.cells (s.map bL++C.drop s.length).toArray e (0,0)):=by
  show((w.heap.modify b (Go.Sort.onCells (Go.Sort.putCells (Value.int .i64) 0 s.toArray)))++os)[b]? = _
  rw[Array.getElem?_append_left (by simpa using hblk),Array.getElem?_modify,if_pos rfl,hb]
  simp only[Option.map_some,Go.Sort.onCells]
  rw[lR _ _ hs]
 have hold : ∀ k,k<w.heap.size→k≠b→(Go.Sort.grow (Go.Sort.putRow (Value.int .i64) (Go.Sort.ahead w n) b 0 s.toArray) os).heap[k]? = w.heap[k]?:=fun k hk hne=>by
  show((w.heap.modify b (Go.Sort.onCells (Go.Sort.putCells (Value.int .i64) 0 s.toArray)))++os)[k]? = _
  rw[Array.getElem?_append_left (by simpa using hk),Array.getElem?_modify,if_neg (Ne.symm hne)]
 have hC'l:(s.map bL++C.drop s.length).length=C.length:=by
  rw[List.length_append,List.length_map,List.length_drop]
  omega
 refine⟨_,⟨fun _=>True,[(b,Row.c (s.map bL++C.drop s.length))]⟩,rfl,⟨rfl,rfl,rfl,?_,fun k o ho=>?_⟩,?_,by simp,.pure trivial,rfl,rfl⟩
 · show w.heap.size≤((w.heap.modify b (Go.Sort.onCells (Go.Sort.putCells (Value.int .i64) 0 s.toArray)))++os).size
   simp
 · by_cases hk:k=b
   · subst hk
     rw[hb] at ho
     cases ho
     refine⟨_,hnew,.inr (.inl ⟨_,_,_,_,rfl,rfl,?_,fun i hi=>absurd ⟨_,List.mem_singleton.2 rfl,rfl⟩ hi⟩)⟩
     simpa using hC'l
   · exact⟨o,by rw[hold k (bu ho) hk,ho],.refl _ _⟩
 · intro r hr
   simp at hr
   subst hr
   exact⟨⟨e,hnew⟩,.inr ⟨⟨_,List.mem_singleton.2 rfl,rfl⟩,by simp⟩⟩
theorem jJ {n b cap:Nat} {C L:List Value} (hO:cB 1 n (some ⟨b,0,none⟩) cap C L):C.length=cap∧C.take n=L∧L.length=n:=by
 rcases hO.alt with⟨h,_⟩ | ⟨b',h,h1,h2⟩
 · cases h
 · exact⟨by simpa using h1,by simpa using h2,by simpa using hO.len⟩
theorem vQ {w:World} {b:Nat} {C:List Value} {e:TypeId} (hb:w.heap[b]? = some (.cells C.toArray e (0,0))) {l:List Int} (hC:C.take l.length=l.map bL):Go.Sort.Holds (Value.int .i64) w b 0 l.toArray:=by
 intro j hj
 have hj':j<l.length:=by simpa using hj
 have h1:C[j]? = some (bL l[j]):=by
  have h:=congrArg (fun x=>x[j]?) hC
  simp only[List.getElem?_take,hj',if_true,List.getElem?_map,List.getElem?_eq_getElem,Option.map_some] at h
  exact h
 constructor
 · simp only[World.cell?,hb,Nat.zero_add]
   simp[h1,hj',bL]
 · simp[World.frozen?,hb]
theorem rL (b cap:Nat) (C:List Value) (l:List Int) (hO:cB 1 l.length (some ⟨b,0,none⟩) cap C (l.map bL)) (hl:l.length≤1000000000) (Pre:World→Prop) :
 cF Tryz.prog 205 [.slice (some ⟨b,0,none⟩) l.length cap] [(b,Row.c C)] Pre
  (fun v F=>v = .tuple #[]∧F=⟨fun _=>True,[(b,Row.c ((l.mergeSort fun x y=>decide (x≤y)).map bL++C.drop (l.mergeSort fun x y=>decide (x≤y)).length))]⟩):=by
 obtain⟨h1,h2,h3⟩:=jJ hO
 have hfit:=hO.fit
 exact qP Tryz.func205 (by decide) (by decide) (by rw[List.length_mergeSort];omega) Pre fun w e hb=>Tryz.slices_Sort_int b 0 cap l w (vQ hb h2) (bu hb) (by omega)
theorem rl (b cap:Nat) (C:List Value) (l:List Int) (hO:cB 1 l.length (some ⟨b,0,none⟩) cap C (l.map bL)) (hl:l.length≤1000000000) (hc:(Lib.compact l).length≤l.length) (Pre:World→Prop) :
 cF Tryz.prog 206 [.slice (some ⟨b,0,none⟩) l.length cap] [(b,Row.c C)] Pre
  (fun v F=>v = .slice (some ⟨b,0,none⟩) (Lib.compact l).length cap∧F=⟨fun _=>True,[(b,Row.c ((Lib.compact l++List.replicate (l.length - (Lib.compact l).length) 0).map bL++C.drop (Lib.compact l++List.replicate (l.length - (Lib.compact l).length) 0).length))]⟩):=by
 obtain⟨h1,h2,h3⟩:=jJ hO
 have hfit:=hO.fit
 refine qP Tryz.func206 (by decide) (by decide) (by rw[List.length_append,List.length_replicate];omega) Pre fun w e hb=>(Tryz.slices_Compact_int b 0 cap l w (vQ hb h2) (by omega) hfit).mono ?_
 rintro r w' ⟨rfl,q,rfl⟩
 exact⟨rfl,q,#[],by simp[Go.Sort.grow];rfl⟩
theorem gu (l:List Int):(Lib.compact l).length≤l.length:=by
 unfold Lib.compact Lib.compactUpTo
 rw[List.length_map]
 exact Nat.le_trans (List.length_filter_le _ _) (by simp)
theorem ic {P:Program} {f:FuncId} {fn:Func} (hfn:P.funcs[f]? = some fn) (hb:fn.body.isSome=true) (hnm:(fn.name == "runtime.NumGoroutine")=false) {vs:List Value} {v:Value}
 (h : ∀ w,Calls P f vs.toArray w fun e w'=>e = .returned v∧w'=w):ah P f vs (fun w=>True) (fun u F=>u=v):=by
 unfold ah
 refine⟨⟨fn,hfn,hb,hnm⟩,fun av w hav hpre=>(h w).mono ?_⟩
 rintro e w' ⟨rfl,rfl⟩
 exact⟨v,⟨fun _=>True,[]⟩,rfl,cQ.refl _ _,⟨by simp,by simp,.pure trivial⟩,rfl⟩
def k8 (l:List Se):List Int:=Lib.compact ((l.map (·.frame)).mergeSort fun x y=>decide (x≤y))
theorem pW (l:List Se) (x:Int):x∈k8 l↔∃ e∈l,e.frame=x:=by
 unfold k8
 rw[nX,(List.mergeSort_perm _ _).mem_iff,List.mem_map]
theorem rD (p:Option Addr) (cap:Nat):ah Tryz.prog 205 [.slice p 0 cap] (fun w=>True) (fun v F=>v = .tuple #[]):=
 ic Tryz.func205 (by decide) (by decide) fun w=>Tryz.slices_Sort_int_none p cap w
theorem rI (p:Option Addr) (cap:Nat):ah Tryz.prog 206 [.slice p 0 cap] (fun w=>True) (fun v F=>v = .slice p 0 cap):=
 ic Tryz.func206 (by decide) (by decide) fun w=>Tryz.slices_Compact_int_empty p cap w
theorem qV (l:List Se) (h:Hd) (hh:h.Ok l.length) (hl:l.length≤1000000) :
 ah Tryz.prog 127 [h.v l.length] (fun w=>af w h.a (l.flatMap bx)) (fun v F=>∃ k:Hd,v=k.v (k8 l).length∧k.Ok (k8 l).length∧F=⟨fun w=>af w k.a ((k8 l).map bL),[]⟩):=by
 refine ah.aK ae Tryz.func127 rfl (by decide) (n:=Tryz.f127.ntmps - 1) rfl rfl fun w0 av=>?_
 conv=>whnf
 repeat (refine aa.of ?_;conv=>whnf)
 refine az.loop ae (ι:=Nat×Option Addr×Nat×List Value) ([3,5]++List.range' 8 12)
  (fun x=>x.1≤l.length∧cB 1 x.1 x.2.1 x.2.2.1 x.2.2.2 (((l.take x.1).map (·.frame)).map bL))
  (fun x=>[(3,.v (.slice x.2.1 x.1 x.2.2.1)),(8,.v (.int .i64 (x.1:Int)))]) (fun _=>[]) (fun x=>⟨fun w=>af w h.a (l.flatMap bx),bf x.2.1 x.2.2.2⟩)
  (fun x=>l.length - x.1) (0,none,0,[]) ⟨Nat.zero_le _,cB.nil 1⟩ ?_ rfl (ao.of_le ⟨by simp[bf],fun w hw=>hw⟩) fun x hx=>?_
 · conv=>whnf
   repeat (first | exact ax.nil | refine ax.any ?_ | refine ax.cons ?_)
 obtain⟨i,a,c,C⟩:=x
 obtain⟨hi,hO⟩:=hx
 dsimp only at hi hO ⊢
 conv=>whnf
 repeat (refine aa.of ?_;conv=>whnf)
 refine bT.split (fun hlt=>?_) (fun hlt=>?_)
 · have hlt':i<l.length:=by
    simp only[au,decide_eq_true_eq] at hlt
    omega
   conv=>whnf
   repeat (refine aa.of ?_;conv=>whnf)
   refine ar.aj (ak.index ae (t:=92) rfl rfl rfl (by omega) (by omega) hh.nil fun ad had=>?_)
   conv=>whnf
   repeat (refine aa.of ?_;conv=>whnf)
   refine ar.aj (ak.aU ae rfl rfl (ad:=ad) (k:=i*3) (L:=l.flatMap bx) (m:=bx l[i]) (.fact fun w hw=>had ▸ hw) (by simp) (bj (cf:=bx) (z:=3) (fun _=>rfl) hlt') rfl ?_)
   conv=>whnf
   repeat (refine aa.of ?_;conv=>whnf)
   intro b1
   conv=>whnf
   repeat (refine aa.of ?_;conv=>whnf)
   refine ar.build ae (t:=38) rfl rfl rfl [.int .i64 l[i].frame] rfl rfl (by simp[Value.cells]) (by decide) fun b5=>?_
   conv=>whnf
   repeat (refine aa.of ?_;conv=>whnf)
   refine ar.bF (F':=⟨fun w=>af w h.a (l.flatMap bx),[]++bf a C ++ [(b5,Row.c [.int .i64 l[i].frame])]⟩) (ao.of_le ⟨by simp[Value.cells],fun w hw=>hw⟩) ?_
   refine ar.append ae (t:=38) (xt:=38) rfl rfl rfl rfl rfl rfl (r1:=[]) (r2:=[(b5,Row.c [.int .i64 l[i].frame])]) (M:=[.int .i64 l[i].frame]) hO (aG.row (by simp)) rfl (by simp[aW]) (by omega) (by simp;omega) fun a' c' C' hO'=>?_
   conv=>whnf
   repeat (refine aa.of ?_;conv=>whnf)
   refine⟨(i+1,a',c',C'),⟨⟨hlt',?_⟩,by dsimp only;omega⟩,?_,?_,ao.of_le ⟨by simp,fun w hw=>hw⟩⟩
   · dsimp only
     rw[List.take_succ_eq_append_getElem hlt',List.map_append,List.map_append]
     exact hO'
   · conv=>whnf
     refine⟨?_,rfl⟩
     repeat (first | exact ax.nil | refine ax.any ?_ | refine ax.cons ?_ | refine ax.eq (by rw[wrap_i64 (by omega)];rfl) ?_)
   · conv=>whnf
     exact trivial
 · have hie:i=l.length:=by
    simp only[au,decide_eq_false_iff_not] at hlt
    omega
   subst hie
   rw[List.take_length] at hO
   rcases a with _ | ad
   · have h0:l.length=0:=hO.cc rfl
     have hl0:l = []:=List.length_eq_zero_iff.1 h0
     rw[h0]
     conv=>whnf
     repeat (refine aa.of ?_;conv=>whnf)
     refine aw.val (rD none c) (fun w hw=>trivial) (fun v D hv=>?_)
     subst hv
     conv=>whnf
     repeat (refine aa.of ?_;conv=>whnf)
     refine aw.val (rI none c) (fun w hw=>trivial) (fun v D hv=>?_)
     subst hv
     conv=>whnf
     repeat (refine aa.of ?_;conv=>whnf)
     have hf:(k8 l).length=0:=by
      rw[hl0]
      simp[k8,Lib.compact,Lib.compactUpTo]
     have hf0:k8 l = []:=List.length_eq_zero_iff.1 hf
     refine⟨⟨fun w=>True,[]⟩,ao.of_le ⟨List.nil_sublist _,fun w hw=>trivial⟩,⟨none,c⟩,by rw[hf],by rw[hf];exact⟨fun _=>rfl,Nat.zero_le _⟩,?_⟩
     rw[hf0]
     congr 1
     funext w
     exact propext ⟨fun _=>af.Ac,fun _=>trivial⟩
   · obtain⟨b,hb⟩ : ∃ b,some ad=some ⟨b,0,none⟩:=by
      rcases hO.alt with⟨h,_⟩ | ⟨b,h,_⟩
      · cases h
      · exact⟨b,h⟩
     obtain rfl:=Option.some.inj hb
     have hn:l.length=(l.map (·.frame)).length:=by simp
     obtain⟨f,hf⟩ : ∃ f,f=l.map (·.frame):=⟨_,rfl⟩
     have hL:k8 l=Lib.compact (f.mergeSort fun x y=>decide (x≤y)):=by rw[hf];rfl
     rw[← hf] at hn hO
     rw[hL]
     have hO1:cB 1 f.length (some ⟨b,0,none⟩) c C (f.map bL):=hn ▸ hO
     obtain⟨o1,o2,o3⟩:=jJ hO1
     have hfit:=hO1.fit
     have hs1:=rL b c C f hO1 (by omega) (fun _=>True)
     obtain⟨g,hg⟩ : ∃ g,f.mergeSort (fun x y=>decide (x≤y))=g:=⟨_,rfl⟩
     have hgl:g.length=f.length:=by rw[← hg,List.length_mergeSort]
     rw[hg] at hs1 ⊢
     have hO2:cB 1 g.length (some ⟨b,0,none⟩) c (g.map bL++C.drop g.length) (g.map bL):=by
      refine⟨by simp,by omega,.inr ⟨b,rfl,?_,?_⟩⟩
      · rw[List.length_append,List.length_map,List.length_drop]
        omega
      · rw[Nat.mul_one,List.take_append_of_le_length (by simp),List.take_of_length_le (by simp)]
     have hs2:=rl b c _ g hO2 (by omega) (gu g) (fun _=>True)
     obtain⟨u,hu⟩ : ∃ u,Lib.compact g=u:=⟨_,rfl⟩
     have hul:u.length≤g.length:=by rw[← hu];exact gu g
     rw[hu] at hs2 ⊢
     rw[hn]
     conv=>whnf
     refine aw.bF (F':=⟨fun w=>af w h.a (l.flatMap bx),[] ++ [(b,Row.c C)] ++ []⟩) (ao.of_le ⟨by simp[bf],fun w hw=>hw⟩) ?_
     refine aw.rows hs1 (fun w hw=>trivial) (fun v F hv=>?_)
     obtain⟨rfl,rfl⟩:=hv
     rw[← hgl]
     conv=>whnf
     repeat (refine aa.of ?_;conv=>whnf)
     refine aw.bF (F':=⟨fun w=>True,[] ++ [(b,Row.c (g.map bL++C.drop g.length))] ++ []⟩) (ao.of_le ⟨by simp,fun w hw=>trivial⟩) ?_
     refine aw.rows hs2 (fun w hw=>trivial) (fun v F hv=>?_)
     obtain⟨rfl,rfl⟩:=hv
     conv=>whnf
     repeat (refine aa.of ?_;conv=>whnf)
     refine⟨_,?_,⟨some ⟨b,0,none⟩,c⟩,rfl,⟨(fun e=>by cases e),by dsimp only;omega⟩,rfl⟩
     refine ao.trans (ao.of_le (F':=⟨fun w=>True,[(b,Row.c ((u++List.replicate (g.length - u.length) 0).map bL++(g.map bL++C.drop g.length).drop (u++List.replicate (g.length - u.length) 0).length))]⟩) ⟨by simp,fun w hw=>trivial⟩) (ao.trans ao.share1 (ao.imp fun w hw=>?_))
     have:=hw.2.take u.length
     rw[List.map_append,List.append_assoc,List.take_append_of_le_length (by simp),List.take_of_length_le (by simp)] at this
     exact this
theorem qN (x:pM) (b o:Nat) (f:Int):ah Tryz.prog 128 [.agg ⟨bc x⟩,.pointer (some ⟨b,o,none⟩)] (fun w=>af w (some ⟨b,o,none⟩) [.int .i64 f]) (fun v F=>v = .bool (x.w&&bJ x.frame f)):=by
 refine ah.aK ae Tryz.func128 rfl (by decide) (n:=Tryz.f128.ntmps - 2) rfl rfl fun w0 av=>?_
 conv=>whnf
 repeat (refine aa.of ?_;conv=>whnf)
 intro b1
 conv=>whnf
 repeat (refine aa.of ?_;conv=>whnf)
 repeat' (first
  | (refine And.intro ?_ ?_<;>conv=>whnf)
  | (refine an.same rfl ?_;conv=>whnf)
  | (refine an.row rfl ?_;conv=>whnf)
  | (refine an.call rfl ?_;conv=>whnf)
  | (refine aS.of ?_;conv=>whnf)
  | (refine aa.of ?_;conv=>whnf)
  | (refine ar.aj (ak.aE ae rfl rfl (ad:=⟨b,o,none⟩) (k:=0) (L:=[.int .i64 f]) (v:=.int .i64 f) (.fact fun w hw=>hw) (fun _=>rfl) rfl ?_);conv=>whnf)
  | (split<;>conv=>whnf)
  | (refine an.mk ?_ ?_;(focus (first | exact ao.refl _ | exact ao.left _ _ | exact ao.of_le ⟨List.sublist_append_left _ _,fun w h=>h⟩ | exact ao.of_le ⟨List.Sublist.refl _,fun w h=>h.1⟩));conv=>whnf))
 all_goals refine⟨_,ao.refl _,?_⟩
 all_goals first | rfl | (simp only[*,if_true,if_false,cond_true,cond_false,Bool.false_eq_true,Bool.and_true,Bool.true_and,Bool.and_false,Bool.false_and,Bool.or_true,Bool.true_or,Bool.or_false,Bool.false_or];done) | (simp_all;done)
def mG (l:List pM) (f:Int):Bool:=l.any fun x=>x.w&&bJ x.frame f
def q_ (s:bR) (i:Nat):Bool:=(s.sp i).l.all fun e=>!mG s.wi.l e.frame
def g_ (s:bR):Bool:=allI 32 (q_ s)
theorem vt {s:bR} {i:Nat}:q_ s i=true↔∀ x∈k8 (s.sp i).l,mG s.wi.l x=false:=by
 unfold q_
 rw[List.all_eq_true]
 constructor
 · intro h x hx
   obtain⟨e,he,rfl⟩:=(pW _ _).1 hx
   simpa using h e he
 · intro h e he
   simpa using h e.frame ((pW _ _).2 ⟨e,he,rfl⟩)
theorem ru (C:List Value) (s:bR) (hC:dM C s) (ho:s.Ok):ah Tryz.prog 69 [.agg ⟨C⟩] s.Rows (fun v F=>v = .bool (g_ s)):=by
 refine ah.aK ae Tryz.func69 rfl (by decide) (n:=Tryz.f69.ntmps - 1) rfl rfl fun w0 av=>?_
 conv=>whnf
 repeat (refine aa.of ?_;conv=>whnf)
 refine ar.cA fun br=>?_
 conv=>whnf
 repeat (refine aa.of ?_;conv=>whnf)
 refine ar.aj (ak.aU ae rfl rfl (ad:=⟨br,0,none⟩) (k:=275) (L:=C) (m:=(C.drop 275).take 32) (aG.row (by simp[Value.cells])) rfl rfl (by rw[List.length_take,List.length_drop,hC.len];rfl) ?_)
 conv=>whnf
 repeat (refine aa.of ?_;conv=>whnf)
 refine az.loop ae (ι:=Nat) ([4,6]++List.range' 10 17) (fun x=>x≤32∧∀ j,j<x→q_ s j=true)
  (fun x=>[(10,.v (.int .i64 (x:Int)))]) (fun _=>[]) (fun _=>⟨s.Rows,[(br,Row.c C)]⟩)
  (fun x=>32 - x) 0 ⟨Nat.zero_le _,fun j h=>by omega⟩ ?_ rfl (ao.of_le ⟨by simp[Value.cells],fun w hw=>hw⟩) fun i hi=>?_
 · conv=>whnf
   repeat (first | exact ax.nil | refine ax.any ?_ | refine ax.cons ?_)
 obtain⟨hi,hall⟩:=hi
 conv=>whnf
 repeat (refine aa.of ?_;conv=>whnf)
 refine bT.split (fun hlt=>?_) (fun hlt=>?_)
 · have hlt':i<32:=by
    simp[au] at hlt
    omega
   have h0:=qV (s.sp i).l (s.sp i).h (ho.sp i hlt').h (ho.sl i hlt')
   have hml:(k8 (s.sp i).l).length≤1000000:=by
    have h1:=gu (((s.sp i).l.map (·.frame)).mergeSort fun x y=>decide (x≤y))
    rw[List.length_mergeSort,List.length_map] at h1
    have h2:=ho.sl i hlt'
    exact Nat.le_trans h1 h2
   have hmem:=@vt s i
   have hnext:q_ s i=true→∀ j,j<i+1→q_ s j=true:=fun hs j hj=>by
    rcases Nat.lt_or_eq_of_le (Nat.lt_succ_iff.1 hj) with h5 | h5
    · exact hall j h5
    · exact h5 ▸ hs
   generalize k8 (s.sp i).l=m at *
   conv=>whnf
   repeat (refine aa.of ?_;conv=>whnf)
   refine ar.aj (ak.fF ae (t:=93) rfl rfl rfl rfl rfl (l:=(C.drop 275).take 32) i rfl hlt' (v:=(s.sp i).h.v (s.sp i).l.length) (by rw[List.getElem?_take,if_pos hlt',List.getElem?_drop];exact hC.sp i hlt') ?_)
   conv=>whnf
   repeat (refine aa.of ?_;conv=>whnf)
   refine aw.pure h0 (fun w hw=>hw.sp i hlt') (fun v D hv=>?_)
   obtain⟨k,rfl,hk,rfl⟩:=hv
   conv=>whnf
   repeat (refine aa.of ?_;conv=>whnf)
   refine az.loop ae (ι:=Nat) (6::List.range' 16 10) (fun x=>x≤m.length∧∀ j (hj:j<m.length),j<x→mG s.wi.l m[j]=false)
    (fun x=>[(16,.v (.int .i64 (x:Int)))]) (fun _=>[]) (fun _=>⟨fun w=>s.Rows w∧af w k.a (m.map bL),[(br,Row.c C)]⟩)
    (fun x=>m.length - x) 0 ⟨Nat.zero_le _,fun j hj h=>by omega⟩ ?_ rfl (ao.of_le ⟨by simp[Fx.and],fun w hw=>hw⟩) fun j hj=>?_
   · conv=>whnf
     repeat (first | exact ax.nil | refine ax.any ?_ | refine ax.cons ?_)
   obtain⟨hj,hallj⟩:=hj
   conv=>whnf
   repeat (refine aa.of ?_;conv=>whnf)
   refine bT.split (fun hlt2=>?_) (fun hlt2=>?_)
   · have hj':j<m.length:=by
      simp only[au,decide_eq_true_eq] at hlt2
      omega
     have hb : ∀ b:Nat,_:=fun b=>oP bc (fun _=>rfl) 128 (fun w=>af w (some ⟨b,0,none⟩) [.int .i64 m[j]]) (fun x=>x.w&&bJ x.frame m[j]) (.pointer (some ⟨b,0,none⟩)) s.wi.l s.wi.h ho.wi.h ho.wi.le (fun e _=>qN e b 0 m[j])
     obtain⟨q,hq⟩ : ∃ q,mG s.wi.l m[j]=q:=⟨_,rfl⟩
     rw[show(s.wi.l.any fun x=>x.w&&bJ x.frame m[j])=q from hq] at hb
     conv=>whnf
     repeat (refine aa.of ?_;conv=>whnf)
     refine ar.aj (ak.index ae (t:=38) rfl rfl rfl (by omega) (by omega) hk.nil fun ad had=>?_)
     conv=>whnf
     repeat (refine aa.of ?_;conv=>whnf)
     refine ar.aj (ak.aE ae rfl rfl (ad:=ad) (k:=j) (L:=m.map bL) (v:=.int .i64 m[j]) (.fact fun w hw=>had ▸ hw.2) (fun _=>by simp) (by rw[List.getElem?_map,List.getElem?_eq_getElem hj'];rfl) ?_)
     conv=>whnf
     repeat (refine aa.of ?_;conv=>whnf)
     intro b6
     conv=>whnf
     repeat (refine aa.of ?_;conv=>whnf)
     refine ar.aj (ak.aE ae rfl rfl (ad:=⟨br,0,none⟩) (k:=307) (L:=C) (v:=s.wi.v) (aG.row (by simp[Value.cells])) (fun _=>rfl) hC.wi ?_)
     conv=>whnf
     repeat (refine aa.of ?_;conv=>whnf)
     refine aw.look (hb b6) ((Loc.row _ _).and (Loc.row _ _)) (fun w hst=>⟨hst.now.1.wi,aG.box 0 rfl (by simp) rfl w hst⟩) ?_
     cases q
     · conv=>whnf
       repeat (refine aa.of ?_;conv=>whnf)
       refine⟨j+1,⟨⟨hj',fun j2 hj2 h2=>?_⟩,by dsimp only;omega⟩,?_,?_,ao.refl _⟩
       · rcases Nat.lt_or_eq_of_le (Nat.lt_succ_iff.1 h2) with h5 | h5
         · exact hallj j2 hj2 h5
         · subst h5
           exact hq
       · conv=>whnf
         refine⟨?_,rfl⟩
         repeat (first | exact ax.nil | refine ax.any ?_ | refine ax.cons ?_ | refine ax.eq (by rw[wrap_i64 (by omega)];rfl) ?_)
       · conv=>whnf
         exact trivial
     · conv=>whnf
       repeat (refine aa.of ?_;conv=>whnf)
       refine⟨_,ao.refl _,?_⟩
       unfold g_
       rw[aZ hlt' (Bool.eq_false_iff.2 fun he=>?_)]
       have:=hmem.1 he m[j] (List.getElem_mem hj')
       rw[hq] at this
       cases this
   · have hje:j=m.length:=by
      simp only[au,decide_eq_false_iff_not] at hlt2
      omega
     subst hje
     have hr:q_ s i=true:=hmem.2 fun x hx=>by
      obtain⟨j,hj,rfl⟩:=List.getElem_of_mem hx
      exact hallj j hj hj
     conv=>whnf
     repeat (refine aa.of ?_;conv=>whnf)
     refine⟨i+1,⟨⟨hlt',hnext hr⟩,by dsimp only;omega⟩,?_,?_,ao.of_le ⟨List.Sublist.refl _,fun w hw=>hw.1⟩⟩
     · conv=>whnf
       refine⟨?_,rfl⟩
       repeat (first | exact ax.nil | refine ax.any ?_ | refine ax.cons ?_ | refine ax.eq (by rw[wrap_i64 (by omega)];rfl) ?_)
     · conv=>whnf
       exact trivial
 · have hie:i=32:=by
    simp[au] at hlt
    omega
   subst hie
   conv=>whnf
   repeat (refine aa.of ?_;conv=>whnf)
   exact⟨_,ao.refl _,by unfold g_;rw[bH hall]⟩
theorem tM {C m:List Value} {k j z:Nat} (hj:j+m.length≤z) (hk:k+z≤C.length):laid C (k+j) m=laid C k (laid ((C.drop k).take z) j m):=by
 have hl:((C.drop k).take z).length=z:=by rw[List.length_take,List.length_drop];omega
 have h1:(laid ((C.drop k).take z) j m).length=z:=by rw[jc (by omega),hl]
 apply List.ext_getElem?
 intro n
 rw[fy (by omega),fy (by omega),fy (by omega),h1]
 by_cases h:k≤n∧n<k+z
 · rw[if_pos h]
   by_cases h2:k+j≤n∧n<k+j+m.length
   · rw[if_pos h2,if_pos (by omega)]
     congr 1
     omega
   · rw[if_neg h2,if_neg (by omega),List.getElem?_take,if_pos (by omega),List.getElem?_drop]
     congr 1
     omega
 · rw[if_neg h,if_neg (by omega)]
theorem vn {α:Type} {cf:α→List Value} {z:Nat} (hz : ∀ x,(cf x).length=z) {l:List α} {i:Nat} (x:α) (hi:i<l.length):(l.set i x).flatMap cf=laid (l.flatMap cf) (i*z) (cf x):=by
 have e:l=l.take i++l[i]::l.drop (i+1):=by simp
 have hlen:((l.take i).flatMap cf).length=i*z:=by rw[iO hz,List.length_take,Nat.min_eq_left (by omega)]
 have e2:(l.set i x).flatMap cf=(l.take i).flatMap cf++(cf x++(l.drop (i+1)).flatMap cf):=by
  rw[List.set_eq_take_append_cons_drop,if_pos hi,List.flatMap_append,List.flatMap_cons]
 have e3:l.flatMap cf=(l.take i).flatMap cf++(cf l[i]++(l.drop (i+1)).flatMap cf):=by
  conv=>lhs;rw[e]
  rw[List.flatMap_append,List.flatMap_cons]
 have e5:(l.flatMap cf).drop (i*z+z)=(l.drop (i+1)).flatMap cf:=by
  rw[e3,← hlen,← List.drop_drop,List.drop_left]
  have:z=(cf l[i]).length:=(hz _).symm
  conv=>lhs;rw[this]
  rw[List.drop_left]
 rw[e2]
 unfold laid
 rw[je hz,hz,e5,List.append_assoc]
theorem aG.rowFrom {w0:World} {R:Nat→Nat→Prop} {av:Nat→Prop} {bs:List (Nat×Nat)} {cs:List (List Value)} {F:Fx} {b:Nat} {C:List Value} (k:Nat) (h:(b,Row.c C)∈F.rs):aG w0 R av bs cs F (some ⟨b,k,none⟩) (C.drop k):=fun w hst=>by
 have:=(aG.row h w hst).drop k
 rw[show(⟨b,0,none⟩:Addr).add k=⟨b,k,none⟩ from by
  unfold Addr.add
  split
  · rename_i h0
    rw[h0]
  · simp] at this
 exact this
structure Lf where
 al:Bool
 ca:Bool
 cl:Bool
 call:Int
instance:Inhabited Lf:=⟨⟨false,false,false,0⟩⟩
def ei (x:Lf):List Value:=[.bool x.al,.bool x.ca,.bool x.cl,.int .i64 x.call]
def rE (l:Lf) (x:En):Option Lf:=
 if l.cl&&kr x.kind 6 then none else
 if bJ x.kind 3 then (if l.al then none else some ⟨true,false,false,0⟩) else
 if bJ x.kind 6 then (if !l.al then none else some ⟨false,false,false,0⟩) else
 if bJ x.kind 1 then (if !l.al||l.ca then none else some ⟨l.al,true,l.cl,x.call⟩) else
 if bJ x.kind 2 then (if !l.ca||kr l.call x.call then none else some ⟨l.al,false,l.cl,0⟩) else
 if bJ x.kind 4 then (if l.al then some ⟨l.al,l.ca,l.al,l.call⟩ else none) else
 if bJ x.kind 5 then (if l.al then some l else none) else some l
def zd (LL:List Lf) (i:Nat) (b:Nat) (r:Option Lf) (v:Value) (F:Fx):Prop:=match r with
 | some l'=>v = .bool true∧F=⟨fun _=>True,[(b,Row.c ((LL.set i l').flatMap ei))]⟩
 | none=>v = .bool false
theorem yY {LL:List Lf} (hl:LL.length=32) {i:Nat} (hi:i<32) (l:Lf) (j:Nat) (m:List Value) (l':Lf) (hj:j+m.length≤4) (he:laid (ei l) j m=ei l'):laid ((LL.set i l).flatMap ei) (i*4+j) m=(LL.set i l').flatMap ei:=by
 have hlen:((LL.set i l).flatMap ei).length=128:=by rw[iO (z:=4) (fun _=>rfl),List.length_set,hl]
 rw[tM (z:=4) hj (by omega),bj (cf:=ei) (z:=4) (fun _=>rfl) (i:=i) (by simp;omega),List.getElem_set_self,he,← vn (cf:=ei) (z:=4) (fun _=>rfl) l' (by simp;omega),List.set_set]
theorem qy (LL:List Lf) (hl:LL.length=32) (i:Nat) (hi:i<32) (x:En) (b:Nat) :
 cF Tryz.prog 133 [.pointer (some ⟨b,i*4,none⟩),.agg ⟨xX x⟩] [(b,Row.c (LL.flatMap ei))] (fun _=>True) (zd LL i b (rE LL[i]! x)):=by
 have hb:LL[i]! = LL[i]:=cm (by omega)
 have hset:LL.set i LL[i]=LL:=by simp
 have h0:((LL.flatMap ei).drop (i*4))[0]? = some (.bool LL[i]!.al):=by rw[List.getElem?_drop,eY (z:=4) (fun _=>rfl) (by omega) (by decide),hb];rfl
 have h1:((LL.flatMap ei).drop (i*4))[1]? = some (.bool LL[i]!.ca):=by rw[List.getElem?_drop,eY (z:=4) (fun _=>rfl) (by omega) (by decide),hb];rfl
 have h2:((LL.flatMap ei).drop (i*4))[2]? = some (.bool LL[i]!.cl):=by rw[List.getElem?_drop,eY (z:=4) (fun _=>rfl) (by omega) (by decide),hb];rfl
 have h3:((LL.flatMap ei).drop (i*4))[3]? = some (.int .i64 LL[i]!.call):=by rw[List.getElem?_drop,eY (z:=4) (fun _=>rfl) (by omega) (by decide),hb];rfl
 have hp:=@yY LL hl i hi
 rw[← hb] at hset
 obtain⟨⟨al,ca,cl,call⟩,hL⟩ : ∃ l,LL[i]! = l:=⟨_,rfl⟩
 rw[hL] at h0 h1 h2 h3 hset ⊢
 dsimp only at h0 h1 h2 h3
 try clear hb hL
 have hlen:(LL.flatMap ei).length=128:=by rw[iO (z:=4) (fun _=>rfl),hl]
 have hw0 : ∀ l',laid (LL.flatMap ei) (i*4) (ei l')=(LL.set i l').flatMap ei:=fun l'=>(vn (cf:=ei) (z:=4) (fun _=>rfl) l' (by omega)).symm
 have hw2:laid (LL.flatMap ei) (i*4+2) [.bool al]=(LL.set i ⟨al,ca,al,call⟩).flatMap ei:=by
  conv=>lhs;rw[← hset]
  exact hp _ 2 _ _ (by simp) rfl
 have hw13 : ∀ q n,laid (laid (LL.flatMap ei) (i*4+1) [.bool q]) (i*4+3) [.int .i64 n]=(LL.set i ⟨al,q,cl,n⟩).flatMap ei:=fun q n=>by
  conv=>lhs;rw[← hset]
  rw[hp ⟨al,ca,cl,call⟩ 1 [.bool q] ⟨al,q,cl,call⟩ (by simp) rfl]
  exact hp _ 3 _ _ (by simp) rfl
 have hz:((laid (LL.flatMap ei) (i*4+2) [.bool al]).drop (i*4))[0]? = some (.bool al):=by
  rw[hw2,List.getElem?_drop,eY (z:=4) (fun _=>rfl) (by simp;omega) (by decide),List.getElem_set_self]
  rfl
 obtain⟨r,hr⟩ : ∃ r,rE ⟨al,ca,cl,call⟩ x=r:=⟨_,rfl⟩
 rw[hr]
 refine cF.aK ae Tryz.func133 rfl (by decide) (n:=Tryz.f133.ntmps - 2) rfl rfl (by simp) fun w0 av=>?_
 conv=>whnf
 repeat (refine aa.of ?_;conv=>whnf)
 intro b1
 conv=>whnf
 repeat (refine aa.of ?_;conv=>whnf)
 repeat' (first
  | (refine And.intro ?_ ?_<;>conv=>whnf)
  | (refine an.same rfl ?_;conv=>whnf)
  | (refine an.row rfl ?_;conv=>whnf)
  | (refine an.call rfl ?_;conv=>whnf)
  | (refine aS.of ?_;conv=>whnf)
  | (refine aa.of ?_;conv=>whnf)
  | (refine az.draw ae mixed rfl rfl ?_;conv=>whnf)
  | (refine ar.aj (ak.aE ae rfl rfl (ad:=⟨b,i*4,none⟩) (k:=0) (L:=(LL.flatMap ei).drop (i*4)) (v:=.bool al) (aG.rowFrom _ (List.Mem.head _)) (fun _=>rfl) h0 ?_);conv=>whnf)
  | (refine ar.aj (ak.aE ae rfl rfl (ad:=⟨b,i*4,none⟩) (k:=1) (L:=(LL.flatMap ei).drop (i*4)) (v:=.bool ca) (aG.rowFrom _ (List.Mem.head _)) (fun _=>rfl) h1 ?_);conv=>whnf)
  | (refine ar.aj (ak.aE ae rfl rfl (ad:=⟨b,i*4,none⟩) (k:=2) (L:=(LL.flatMap ei).drop (i*4)) (v:=.bool cl) (aG.rowFrom _ (List.Mem.head _)) (fun _=>rfl) h2 ?_);conv=>whnf)
  | (refine ar.aj (ak.aE ae rfl rfl (ad:=⟨b,i*4,none⟩) (k:=3) (L:=(LL.flatMap ei).drop (i*4)) (v:=.int .i64 call) (aG.rowFrom _ (List.Mem.head _)) (fun _=>rfl) h3 ?_);conv=>whnf)
  | (refine ar.aj (ak.aE ae rfl rfl (ad:=⟨b,i*4,none⟩) (k:=0) (L:=(laid (LL.flatMap ei) (i*4+2) [.bool al]).drop (i*4)) (v:=.bool al) (aG.rowFrom _ (List.Mem.head _)) (fun _=>rfl) hz ?_);conv=>whnf)
  | (refine ak.aE ae rfl rfl (ad:=⟨b,i*4,none⟩) (k:=1) (L:=(LL.flatMap ei).drop (i*4)) (v:=.bool ca) (aG.rowFrom _ (List.Mem.head _)) (fun _=>rfl) h1 ?_;conv=>whnf)
  | (refine ak.aE ae rfl rfl (ad:=⟨b,i*4,none⟩) (k:=3) (L:=(LL.flatMap ei).drop (i*4)) (v:=.int .i64 call) (aG.rowFrom _ (List.Mem.head _)) (fun _=>rfl) h3 ?_;conv=>whnf)
  | (refine aM.cv ae rfl (r1:=[]) (r2:=[]) (b:=b) (k:=i*4) rfl rfl (by simp[Value.cells,aW]) (by rw[hlen];show i*4+4≤128;omega) ?_;conv=>whnf)
  | (refine aM.cv ae rfl (r1:=[]) (r2:=[]) (b:=b) (k:=i*4+1) rfl rfl (by simp[Value.cells,aW]) (by rw[hlen];show i*4+1+1≤128;omega) ?_;conv=>whnf)
  | (refine aM.cv ae rfl (r1:=[]) (r2:=[]) (b:=b) (k:=i*4+2) rfl rfl (by simp[Value.cells,aW]) (by rw[hlen];show i*4+2+1≤128;omega) ?_;conv=>whnf)
  | (refine aM.cv ae rfl (r1:=[]) (r2:=[]) (b:=b) (k:=i*4+3) rfl rfl (by simp[Value.cells,aW]) (by rw[jc (by rw[hlen];show i*4+1+1≤128;omega),hlen];show i*4+3+1≤128;omega) ?_;conv=>whnf)
  | (refine bT.split (fun h=>?_) (fun h=>?_)<;>conv=>whnf)
  | (split<;>conv=>whnf)
  | (refine an.mk ?_ ?_;(focus (first | exact ao.refl _ | exact ao.left _ _ | exact ao.of_le ⟨List.sublist_append_left _ _,fun w h=>h⟩ | exact ao.of_le ⟨List.Sublist.refl _,fun w h=>h.1⟩));conv=>whnf))
 all_goals first
  | (refine⟨_,ao.refl _,?_⟩;(have h9:r=none:=by rw[← hr];unfold rE;simp_all;done);rw[h9];exact rfl)
  | (refine⟨⟨fun _=>True,[(b,Row.c ((LL.set i ⟨al,ca,cl,call⟩).flatMap ei))]⟩,ao.of_le ⟨by rw[hset];exact List.Sublist.refl _,fun _ h=>h⟩,?_⟩;(have h9:r=some ⟨al,ca,cl,call⟩:=by rw[← hr];unfold rE;simp_all;done);rw[h9];exact⟨rfl,rfl⟩)
  | (refine⟨⟨fun _=>True,[(b,Row.c ((LL.set i ⟨true,false,false,0⟩).flatMap ei))]⟩,ao.of_le ⟨by rw[← hw0];exact List.Sublist.refl _,fun _ h=>h⟩,?_⟩;(have h9:r=some ⟨true,false,false,0⟩:=by rw[← hr];unfold rE;simp_all;done);rw[h9];exact⟨rfl,rfl⟩)
  | (refine⟨⟨fun _=>True,[(b,Row.c ((LL.set i ⟨false,false,false,0⟩).flatMap ei))]⟩,ao.of_le ⟨by rw[← hw0];exact List.Sublist.refl _,fun _ h=>h⟩,?_⟩;(have h9:r=some ⟨false,false,false,0⟩:=by rw[← hr];unfold rE;simp_all;done);rw[h9];exact⟨rfl,rfl⟩)
  | (refine⟨⟨fun _=>True,[(b,Row.c ((LL.set i ⟨al,true,cl,x.call⟩).flatMap ei))]⟩,ao.of_le ⟨by rw[← hw13];exact List.Sublist.refl _,fun _ h=>h⟩,?_⟩;(have h9:r=some ⟨al,true,cl,x.call⟩:=by rw[← hr];unfold rE;simp_all;done);rw[h9];exact⟨rfl,rfl⟩)
  | (refine⟨⟨fun _=>True,[(b,Row.c ((LL.set i ⟨al,false,cl,0⟩).flatMap ei))]⟩,ao.of_le ⟨by rw[← hw13];exact List.Sublist.refl _,fun _ h=>h⟩,?_⟩;(have h9:r=some ⟨al,false,cl,0⟩:=by rw[← hr];unfold rE;simp_all;done);rw[h9];exact⟨rfl,rfl⟩)
  | (refine⟨⟨fun _=>True,[(b,Row.c ((LL.set i ⟨al,ca,al,call⟩).flatMap ei))]⟩,ao.of_le ⟨by rw[← hw2];exact List.Sublist.refl _,fun _ h=>h⟩,?_⟩;cases al<;>first | ((have h9:r=none:=by rw[← hr];unfold rE;simp_all;done);rw[h9];exact rfl) | ((have h9:r=some ⟨true,ca,true,call⟩:=by rw[← hr];unfold rE;simp_all;done);rw[h9];exact⟨rfl,rfl⟩))
  | (refine⟨⟨fun _=>True,[(b,Row.c ((LL.set i ⟨al,ca,cl,call⟩).flatMap ei))]⟩,ao.of_le ⟨by rw[hset];exact List.Sublist.refl _,fun _ h=>h⟩,?_⟩;cases al<;>first | ((have h9:r=none:=by rw[← hr];unfold rE;simp_all;done);rw[h9];exact rfl) | ((have h9:r=some ⟨true,ca,cl,call⟩:=by rw[← hr];unfold rE;simp_all;done);rw[h9];exact⟨rfl,rfl⟩))
def gG (k:Int):Bool:=if bJ k 3 then true else if bJ k 6 then true else if bJ k 1 then true else if bJ k 2 then true else if bJ k 4 then true else bJ k 5
def jq (LL:List Lf) (x:En):Option (List Lf):=if gG x.kind then (if 16≤x.task∧x.task<32 then (match rE LL[x.task.toNat]! x with | some l=>some (LL.set x.task.toNat l) | none=>none) else none) else some LL
def vd:List En→List Lf→Option (List Lf)
 | [],LL=>some LL
 | x::r,LL=>match jq LL x with
  | none=>none
  | some LL'=>vd r LL'
def zR:List Lf:=(List.replicate 32 ⟨false,false,false,0⟩).set 16 ⟨true,false,false,0⟩
def mO (T:Nat→gn) (l:Lf) (i:Nat):Bool:=!((!(l.al == tH T i))||((!(l.cl == (T i).cls))||((!(l.ca == bJ (T i).st 1))||(l.ca&&kr l.call (T i).call))))
def wD (s:bR):Bool:=match vd s.rc.l zR with
 | none=>false
 | some LL=>allI 16 fun k=>mO s.T LL[16+k]! (16+k)
theorem pK (C:List Value) (s:bR) (hC:dM C s) (ho:s.Ok):ah Tryz.prog 73 [.agg ⟨C⟩] s.Rows (fun v F=>v = .bool (wD s)):=by
 unfold wD
 obtain⟨R,hR⟩ : ∃ R,vd s.rc.l zR=R:=⟨_,rfl⟩
 rw[hR]
 obtain⟨l,hrl⟩ : ∃ l,s.rc.l=l:=⟨_,rfl⟩
 rw[hrl] at hR
 have hrv:s.rc.v=s.rc.h.v l.length:=by rw[← hrl];rfl
 have hrh:=ho.rc.h
 have hrle:=ho.rc.le
 rw[hrl] at hrh hrle
 have hrow : ∀ w,s.Rows w→af w s.rc.h.a (l.flatMap xX):=fun w hw=>by
  have:=hw.rc
  unfold Sl.At at this
  rwa [hrl] at this
 refine ah.aK ae Tryz.func73 rfl (by decide) (n:=Tryz.f73.ntmps - 1) rfl rfl fun w0 av=>?_
 conv=>whnf
 repeat (refine aa.of ?_;conv=>whnf)
 refine ar.cA fun br=>?_
 conv=>whnf
 repeat (refine aa.of ?_;conv=>whnf)
 refine ar.cY ae rfl (z:=(List.replicate 32 (⟨false,false,false,0⟩:Lf)).flatMap ei) (by kernel_rfl) fun bl=>?_
 conv=>whnf
 repeat (refine aa.of ?_;conv=>whnf)
 refine ar.aj (ak.bE ae (t:=276) rfl rfl rfl 16 rfl (by decide) rfl ?_)
 conv=>whnf
 repeat (refine aa.of ?_;conv=>whnf)
 refine aM.bF (F':=⟨s.Rows,[(br,Row.c C)] ++ [(bl,Row.c ((List.replicate 32 (⟨false,false,false,0⟩:Lf)).flatMap ei))] ++ []⟩) (ao.of_le ⟨by simp[Value.cells],fun w hw=>hw⟩) ?_
 refine aM.cv ae rfl (b:=bl) (k:=64) rfl rfl (by simp[Value.cells,aW]) (by rw[iO (z:=4) (fun _=>rfl),List.length_replicate];decide) ?_
 conv=>whnf
 repeat (refine aa.of ?_;conv=>whnf)
 refine ar.aj (ak.aE ae rfl rfl (ad:=⟨br,0,none⟩) (k:=373) (L:=C) (v:=s.rc.h.v l.length) (aG.row (by simp)) (fun _=>rfl) (hrv ▸ hC.rc) ?_)
 conv=>whnf
 repeat (refine aa.of ?_;conv=>whnf)
 have h0:laid ((List.replicate 32 (⟨false,false,false,0⟩:Lf)).flatMap ei) 64 [.bool true]=zR.flatMap ei:=by kernel_rfl
 refine az.loop ae (ι:=Nat×List Lf) ([5]++List.range' 15 26) (fun x=>x.1≤l.length∧x.2.length=32∧vd (l.drop x.1) x.2=R)
  (fun x=>[(15,.v (.int .i64 (x.1:Int)))]) (fun _=>[]) (fun x=>⟨s.Rows,[(br,Row.c C),(bl,Row.c (x.2.flatMap ei))]⟩)
  (fun x=>l.length - x.1) (0,zR) ⟨Nat.zero_le _,rfl,hR⟩ ?_ rfl (ao.of_le ⟨by rw[← h0];exact List.Sublist.refl _,fun w hw=>hw⟩) fun x hx=>?_
 · conv=>whnf
   repeat (first | exact ax.nil | refine ax.any ?_ | refine ax.cons ?_)
 clear h0 hR
 obtain⟨i,LL⟩:=x
 obtain⟨hi,hLL,hinv⟩:=hx
 dsimp only at hi hLL hinv ⊢
 conv=>whnf
 repeat (refine aa.of ?_;conv=>whnf)
 refine bT.split (fun hlt=>?_) (fun hlt=>?_)
 · have hlt':i<l.length:=by
    simp only[au,decide_eq_true_eq] at hlt
    omega
   rw[List.drop_eq_getElem_cons hlt'] at hinv
   unfold vd at hinv
   obtain⟨x,hx⟩ : ∃ x,l[i]=x:=⟨_,rfl⟩
   rw[hx] at hinv
   have hus:=er x.task
   conv=>whnf
   repeat (refine aa.of ?_;conv=>whnf)
   refine ar.aj (ak.index ae (t:=70) rfl rfl rfl (by omega) (by omega) hrh.nil fun ad had=>?_)
   conv=>whnf
   repeat (refine aa.of ?_;conv=>whnf)
   refine ar.aj (ak.aU ae rfl rfl (ad:=ad) (k:=i*8) (L:=l.flatMap xX) (m:=xX x) (.fact fun w hw=>had ▸ hrow w hw) (by simp) (by rw[← hx];exact bj (cf:=xX) (z:=8) (fun _=>rfl) hlt') rfl ?_)
   conv=>whnf
   repeat (refine aa.of ?_;conv=>whnf)
   intro b5
   conv=>whnf
   repeat (refine aa.of ?_;conv=>whnf)
   by_cases hk:gG x.kind=true
   · have hst:jq LL x=if 16≤x.task∧x.task<32 then (match rE LL[x.task.toNat]! x with | some l=>some (LL.set x.task.toNat l) | none=>none) else none:=by
      unfold jq
      rw[if_pos hk]
     rw[hst] at hinv
     clear hst
     by_cases ht:16≤x.task∧x.task<32
     · rw[if_pos ht] at hinv
       rw[decide_eq_true ht] at hus
       have hfo:=qy LL hLL x.task.toNat (by omega) x bl
       obtain⟨r,hr⟩ : ∃ r,rE LL[x.task.toNat]! x=r:=⟨_,rfl⟩
       rw[hr] at hinv hfo
       rcases r with _ | l'
       · have hRn:R=none:=hinv.symm
         rw[hRn]
         repeat' (first
          | (refine And.intro ?_ ?_<;>conv=>whnf)
          | (refine an.same rfl ?_;conv=>whnf)
          | (refine an.row rfl ?_;conv=>whnf)
          | (refine an.call rfl ?_;conv=>whnf)
          | (refine aS.of ?_;conv=>whnf)
          | (refine aa.of ?_;conv=>whnf)
          | (refine az.draw ae mixed rfl rfl ?_;conv=>whnf)
          | (refine aw.val hus (fun w hw=>trivial) (fun v D hv=>?_);subst hv;conv=>whnf)
          | (refine ak.bE ae (t:=276) rfl rfl rfl x.task.toNat (by omega) (by omega) rfl ?_;conv=>whnf)
          | (refine aw.bF (F':=⟨s.Rows,[(br,Row.c C)] ++ [(bl,Row.c (LL.flatMap ei))] ++ []⟩) (ao.of_le ⟨List.Sublist.refl _,fun w hw=>hw⟩) ?_;rw[show(⟨bl,0,none⟩:Addr).add (x.task.toNat*4)=⟨bl,x.task.toNat*4,none⟩ from by simp[Addr.add];omega];refine aw.rows hfo (fun w hw=>trivial) (fun v F hv=>?_);have hv':v = .bool false:=hv;subst hv';conv=>whnf)
          | (refine bT.split (fun h=>?_) (fun h=>?_)<;>conv=>whnf)
          | (refine an.mk ?_ ?_;(focus (first | exact ao.refl _ | exact ao.left _ _ | exact ao.of_le ⟨List.sublist_append_left _ _,fun w h=>h⟩ | exact ao.of_le ⟨List.Sublist.refl _,fun w h=>h.1⟩));conv=>whnf))
         all_goals first
          | exact⟨_,ao.refl _,rfl⟩
          | (exfalso;unfold gG at hk;simp_all;done)
       · repeat' (first
          | (refine And.intro ?_ ?_<;>conv=>whnf)
          | (refine an.same rfl ?_;conv=>whnf)
          | (refine an.row rfl ?_;conv=>whnf)
          | (refine an.call rfl ?_;conv=>whnf)
          | (refine aS.of ?_;conv=>whnf)
          | (refine aa.of ?_;conv=>whnf)
          | (refine az.draw ae mixed rfl rfl ?_;conv=>whnf)
          | (refine aw.val hus (fun w hw=>trivial) (fun v D hv=>?_);subst hv;conv=>whnf)
          | (refine ak.bE ae (t:=276) rfl rfl rfl x.task.toNat (by omega) (by omega) rfl ?_;conv=>whnf)
          | (refine aw.bF (F':=⟨s.Rows,[(br,Row.c C)] ++ [(bl,Row.c (LL.flatMap ei))] ++ []⟩) (ao.of_le ⟨List.Sublist.refl _,fun w hw=>hw⟩) ?_;rw[show(⟨bl,0,none⟩:Addr).add (x.task.toNat*4)=⟨bl,x.task.toNat*4,none⟩ from by simp[Addr.add];omega];refine aw.rows hfo (fun w hw=>trivial) (fun v F hv=>?_);obtain⟨hv1,hv2⟩:=(show v = .bool true∧F=_ from hv);subst hv1;subst hv2;conv=>whnf)
          | (refine bT.split (fun h=>?_) (fun h=>?_)<;>conv=>whnf)
          | (refine an.mk ?_ ?_;(focus (first | exact ao.refl _ | exact ao.left _ _ | exact ao.of_le ⟨List.sublist_append_left _ _,fun w h=>h⟩ | exact ao.of_le ⟨List.Sublist.refl _,fun w h=>h.1⟩));conv=>whnf))
         all_goals first
          | (exfalso;unfold gG at hk;simp_all;done)
          | (
           refine⟨(i+1,LL.set x.task.toNat l'),⟨⟨hlt',by dsimp only;rw[List.length_set];exact hLL,hinv⟩,by dsimp only;omega⟩,?_,?_,ao.of_le ⟨List.Sublist.refl _,fun w hw=>hw.1⟩⟩;(conv=>whnf);refine⟨?_,rfl⟩;repeat (first | exact ax.nil | refine ax.any ?_ | refine ax.cons ?_ | refine ax.eq (by rw[wrap_i64 (by omega)];rfl) ?_)
           (conv=>whnf);exact trivial)
     · rw[if_neg ht] at hinv
       rw[decide_eq_false ht] at hus
       have hRn:R=none:=hinv.symm
       rw[hRn]
       repeat' (first
        | (refine And.intro ?_ ?_<;>conv=>whnf)
        | (refine an.same rfl ?_;conv=>whnf)
        | (refine an.row rfl ?_;conv=>whnf)
        | (refine an.call rfl ?_;conv=>whnf)
        | (refine aS.of ?_;conv=>whnf)
        | (refine aa.of ?_;conv=>whnf)
        | (refine az.draw ae mixed rfl rfl ?_;conv=>whnf)
        | (refine aw.val hus (fun w hw=>trivial) (fun v D hv=>?_);subst hv;conv=>whnf)
        | (refine bT.split (fun h=>?_) (fun h=>?_)<;>conv=>whnf)
        | (refine an.mk ?_ ?_;(focus (first | exact ao.refl _ | exact ao.left _ _ | exact ao.of_le ⟨List.sublist_append_left _ _,fun w h=>h⟩ | exact ao.of_le ⟨List.Sublist.refl _,fun w h=>h.1⟩));conv=>whnf))
       all_goals first
        | exact⟨_,ao.refl _,rfl⟩
        | (exfalso;unfold gG at hk;simp_all;done)
   · have hst:jq LL x=some LL:=by
      unfold jq
      rw[if_neg hk]
     rw[hst] at hinv
     have hk0:gG x.kind=false:=by simpa using hk
     clear hk hst
     repeat' (first
      | (refine And.intro ?_ ?_<;>conv=>whnf)
      | (refine an.same rfl ?_;conv=>whnf)
      | (refine an.row rfl ?_;conv=>whnf)
      | (refine an.call rfl ?_;conv=>whnf)
      | (refine aS.of ?_;conv=>whnf)
      | (refine aa.of ?_;conv=>whnf)
      | (refine az.draw ae mixed rfl rfl ?_;exfalso;unfold gG at hk0;simp_all;done)
      | (refine bT.split (fun h=>?_) (fun h=>?_)<;>conv=>whnf)
      | (refine an.mk ?_ ?_;(focus (first | exact ao.refl _ | exact ao.left _ _ | exact ao.of_le ⟨List.sublist_append_left _ _,fun w h=>h⟩ | exact ao.of_le ⟨List.Sublist.refl _,fun w h=>h.1⟩));conv=>whnf))
     all_goals first
      | (
       refine⟨(i+1,LL),⟨⟨hlt',hLL,hinv⟩,by dsimp only;omega⟩,?_,?_,ao.refl _⟩;(conv=>whnf);refine⟨?_,rfl⟩;repeat (first | exact ax.nil | refine ax.any ?_ | refine ax.cons ?_ | refine ax.eq (by rw[wrap_i64 (by omega)];rfl) ?_)
       (conv=>whnf);exact trivial)
      | (exfalso;unfold gG at hk0;simp_all;done)
 · have hie:i=l.length:=by
    simp only[au,decide_eq_false_iff_not] at hlt
    omega
   rw[hie,List.drop_length] at hinv
   have hR:R=some LL:=hinv.symm
   rw[hR]
   dsimp only
   clear hinv hlt hie hi hR hrow hrle hrh hrv hrl
   conv=>whnf
   repeat (refine aa.of ?_;conv=>whnf)
   refine az.loop ae (ι:=Nat) ([6,7,8]++List.range' 41 44) (fun x=>x≤16∧∀ j,j<x→mO s.T LL[16+j]! (16+j)=true)
    (fun x=>[(6,.v (.int .i64 ((16+x:Nat):Int)))]) (fun _=>[]) (fun _=>⟨s.Rows,[(br,Row.c C),(bl,Row.c (LL.flatMap ei))]⟩)
    (fun x=>16 - x) 0 ⟨Nat.zero_le _,fun j h=>by omega⟩ ?_ rfl (ao.refl _) fun k hk=>?_
   · conv=>whnf
     repeat (first | exact ax.nil | refine ax.any ?_ | refine ax.cons ?_)
   obtain⟨hk,hall⟩:=hk
   obtain⟨m,hm⟩ : ∃ m,m=16+k:=⟨_,rfl⟩
   rw[← hm]
   conv=>whnf
   repeat (refine aa.of ?_;conv=>whnf)
   refine bT.split (fun hlt=>?_) (fun hlt=>?_)
   · have hlt':m<32:=by
      simp[au] at hlt
      omega
     have hk':k<16:=by omega
     have h2:=eZ C s.T hC.u4 m hlt'
     have hok:mO s.T LL[16+k]! (16+k) = !((!(LL[m]!.al == tH s.T m))||((!(LL[m]!.cl == (s.T m).cls))||((!(LL[m]!.ca == bJ (s.T m).st 1))||(LL[m]!.ca&&kr LL[m]!.call (s.T m).call)))):=by rw[← hm];rfl
     have hnext:mO s.T LL[16+k]! (16+k)=true→∀ j,j<k+1→mO s.T LL[16+j]! (16+j)=true:=fun hs j hj=>by
      rcases Nat.lt_or_eq_of_le (Nat.lt_succ_iff.1 hj) with h5 | h5
      · exact hall j h5
      · exact h5 ▸ hs
     have hlf:((LL.flatMap ei).drop (m*4)).take 4=ei LL[m]!:=by
      rw[cm (by omega)]
      exact bj (cf:=ei) (z:=4) (fun _=>rfl) (by omega)
     have htk:=hC.T m hlt'
     rw[show kr (s.T m).kind 0=tH s.T m from rfl] at h2
     generalize tH s.T m=q1 at *
     generalize LL[m]! = lf at *
     generalize s.T m=t at *
     conv=>whnf
     repeat (refine aa.of ?_;conv=>whnf)
     refine az.draw ae mixed rfl rfl ?_
     conv=>whnf
     repeat' (first
      | (refine And.intro ?_ ?_<;>conv=>whnf)
      | (refine an.same rfl ?_;conv=>whnf)
      | (refine an.row rfl ?_;conv=>whnf)
      | (refine an.call rfl ?_;conv=>whnf)
      | (refine aS.of ?_;conv=>whnf)
      | (refine aa.of ?_;conv=>whnf)
      | (intro b7;conv=>whnf)
      | (refine ak.bE ae (t:=276) rfl rfl rfl m (by omega) (by omega) rfl ?_;conv=>whnf)
      | (refine ak.bE ae (t:=78) rfl rfl rfl m (by omega) (by omega) rfl ?_;conv=>whnf)
      | (refine ak.aU ae rfl rfl (ad:=⟨br,0,none⟩) (k:=m*8) (L:=C) (m:=eP t) (aG.row (by simp)) rfl htk rfl ?_;conv=>whnf)
      | (refine ak.aU ae rfl rfl (ad:=⟨bl,0,none⟩) (k:=m*4) (L:=LL.flatMap ei) (m:=ei lf) (aG.row (by simp)) rfl hlf rfl ?_;conv=>whnf)
      | (refine an.mk ?_ ?_;(focus (first | exact ao.refl _ | exact ao.left _ _ | exact ao.of_le ⟨List.sublist_append_left _ _,fun w h=>h⟩ | exact ao.of_le ⟨List.Sublist.refl _,fun w h=>h.1⟩));conv=>whnf))
     all_goals
      refine az.draw ae mixed rfl rfl ?_
      conv=>whnf
      repeat' (first
       | (refine And.intro ?_ ?_<;>conv=>whnf)
       | (refine an.same rfl ?_;conv=>whnf)
       | (refine an.row rfl ?_;conv=>whnf)
       | (refine an.call rfl ?_;conv=>whnf)
       | (refine aS.of ?_;conv=>whnf)
       | (refine aa.of ?_;conv=>whnf)
       | (refine ak.aU ae rfl rfl (ad:=⟨br,0,none⟩) (k:=0) (L:=C) (m:=C) (aG.row (by simp)) rfl (by rw[List.drop_zero];exact List.take_of_length_le (by rw[hC.len];exact Nat.le_refl _)) hC.len ?_;conv=>whnf)
       | (refine aw.val h2 (fun w hw=>trivial) (fun v D hv=>?_);subst hv;conv=>whnf)
       | (split<;>conv=>whnf)
       | (refine an.mk ?_ ?_;(focus (first | exact ao.refl _ | exact ao.left _ _ | exact ao.of_le ⟨List.sublist_append_left _ _,fun w h=>h⟩ | exact ao.of_le ⟨List.Sublist.refl _,fun w h=>h.1⟩));conv=>whnf))
     all_goals clear hC ho htk hlf h2 hlt
     all_goals first
      | (refine⟨_,ao.refl _,?_⟩;rw[aZ hk' (by rw[hok];clear hnext hall hok;simp_all)];done)
      | (
       refine⟨k+1,⟨⟨hk',hnext (by rw[hok];clear hnext hall hok;simp_all)⟩,by dsimp only;omega⟩,?_,?_,ao.refl _⟩;(conv=>whnf);refine⟨?_,rfl⟩;repeat (first | exact ax.nil | refine ax.any ?_ | refine ax.cons ?_ | refine ax.eq (congrArg (fun z=>SV.v (Value.int .i64 z)) (by rw[wrap_i64 (by omega)];omega)) ?_)
       (conv=>whnf);exact trivial)
   · have hke:k=16:=by
      simp[au] at hlt
      omega
     subst hke
     conv=>whnf
     repeat (refine aa.of ?_;conv=>whnf)
     exact⟨_,ao.refl _,by rw[bH hall]⟩
def aQ (s:bR):List Value:=(List.range 32).flatMap (fun i=>eP (s.T i))++((List.range 11).map (fun i=>Value.bool (s.D i))++(s.q.v::s.pr.v :: .int .i64 s.nx::s.cp.v::s.gr.v::s.ti.v::s.qu.v::s.pg.v::((List.range 32).map (fun i=>(s.sp i).v) ++
 (s.wi.v::s.bk.v::(cG s.dc++(qQ s.tr++(eQ s.lk++(fR s.se ++ [.int .i64 s.now,s.al.v,.bool (s.M 0),.bool (s.M 1),.bool (s.M 2),.bool (s.M 3),.bool (s.M 4),s.pe.v,s.rc.v,s.ac.v,s.nw.v]))))))))
def dh (x:wJ):List Value:=de x.pat :: .int .i64 x.now :: .int .i64 x.sent :: .int .i64 x.first::x.fh.v x.fly.length::x.wh.v x.wait.length::(cG x.co++cG x.ci)
def dw (x:x7):List Value:=de x.inp :: .int .i64 x.at' :: .int .i64 x.pause::de x.got::de x.out::(cG x.co++cG x.ci)
def gj (s:bR):List Value:=(List.range 32).flatMap (fun i=>eP (s.T i))++((List.range 11).map (fun i=>Value.bool (s.D i))++(s.q.v::s.pr.v :: .int .i64 s.nx::s.cp.v::s.gr.v::s.ti.v::s.qu.v::s.pg.v::((List.range 32).map (fun i=>(s.sp i).v) ++
 (s.wi.v::s.bk.v::(cG s.dc++(qQ s.tr++(dh s.lk++(dw s.se ++ [.int .i64 s.now,s.al.v,.bool (s.M 0),.bool (s.M 1),.bool (s.M 2),.bool (s.M 3),.bool (s.M 4),s.pe.v,s.rc.v,s.ac.v,s.nw.v]))))))))
def du {α:Type} (f:Nat→α) (i:Nat) (x:α):Nat→α:=fun j=>if j=i then x else f j
theorem yz (s:bR) : ∀ i,i<32→((aQ s).drop (i*8)).take 8=eP (s.T i)
 | 0,_=>by kernel_rfl
 | 1,_=>by kernel_rfl
 | 2,_=>by kernel_rfl
 | 3,_=>by kernel_rfl
 | 4,_=>by kernel_rfl
 | 5,_=>by kernel_rfl
 | 6,_=>by kernel_rfl
 | 7,_=>by kernel_rfl
 | 8,_=>by kernel_rfl
 | 9,_=>by kernel_rfl
 | 10,_=>by kernel_rfl
 | 11,_=>by kernel_rfl
 | 12,_=>by kernel_rfl
 | 13,_=>by kernel_rfl
 | 14,_=>by kernel_rfl
 | 15,_=>by kernel_rfl
 | 16,_=>by kernel_rfl
 | 17,_=>by kernel_rfl
 | 18,_=>by kernel_rfl
 | 19,_=>by kernel_rfl
 | 20,_=>by kernel_rfl
 | 21,_=>by kernel_rfl
 | 22,_=>by kernel_rfl
 | 23,_=>by kernel_rfl
 | 24,_=>by kernel_rfl
 | 25,_=>by kernel_rfl
 | 26,_=>by kernel_rfl
 | 27,_=>by kernel_rfl
 | 28,_=>by kernel_rfl
 | 29,_=>by kernel_rfl
 | 30,_=>by kernel_rfl
 | 31,_=>by kernel_rfl
 | i+32,h=>absurd h (by omega)
theorem yq (s:bR) : ∀ i,i<11→(aQ s)[256+i]? = some (.bool (s.D i))
 | 0,_=>by kernel_rfl
 | 1,_=>by kernel_rfl
 | 2,_=>by kernel_rfl
 | 3,_=>by kernel_rfl
 | 4,_=>by kernel_rfl
 | 5,_=>by kernel_rfl
 | 6,_=>by kernel_rfl
 | 7,_=>by kernel_rfl
 | 8,_=>by kernel_rfl
 | 9,_=>by kernel_rfl
 | 10,_=>by kernel_rfl
 | i+11,h=>absurd h (by omega)
theorem tj (s:bR) : ∀ i,i<32→(aQ s)[275+i]? = some (s.sp i).v
 | 0,_=>by kernel_rfl
 | 1,_=>by kernel_rfl
 | 2,_=>by kernel_rfl
 | 3,_=>by kernel_rfl
 | 4,_=>by kernel_rfl
 | 5,_=>by kernel_rfl
 | 6,_=>by kernel_rfl
 | 7,_=>by kernel_rfl
 | 8,_=>by kernel_rfl
 | 9,_=>by kernel_rfl
 | 10,_=>by kernel_rfl
 | 11,_=>by kernel_rfl
 | 12,_=>by kernel_rfl
 | 13,_=>by kernel_rfl
 | 14,_=>by kernel_rfl
 | 15,_=>by kernel_rfl
 | 16,_=>by kernel_rfl
 | 17,_=>by kernel_rfl
 | 18,_=>by kernel_rfl
 | 19,_=>by kernel_rfl
 | 20,_=>by kernel_rfl
 | 21,_=>by kernel_rfl
 | 22,_=>by kernel_rfl
 | 23,_=>by kernel_rfl
 | 24,_=>by kernel_rfl
 | 25,_=>by kernel_rfl
 | 26,_=>by kernel_rfl
 | 27,_=>by kernel_rfl
 | 28,_=>by kernel_rfl
 | 29,_=>by kernel_rfl
 | 30,_=>by kernel_rfl
 | 31,_=>by kernel_rfl
 | i+32,h=>absurd h (by omega)
theorem zC (s:bR) (x:gn) : ∀ i,i<32→laid (aQ s) (i*8) (eP x)=aQ { s with T:=du s.T i x }
 | 0,_=>by kernel_rfl
 | 1,_=>by kernel_rfl
 | 2,_=>by kernel_rfl
 | 3,_=>by kernel_rfl
 | 4,_=>by kernel_rfl
 | 5,_=>by kernel_rfl
 | 6,_=>by kernel_rfl
 | 7,_=>by kernel_rfl
 | 8,_=>by kernel_rfl
 | 9,_=>by kernel_rfl
 | 10,_=>by kernel_rfl
 | 11,_=>by kernel_rfl
 | 12,_=>by kernel_rfl
 | 13,_=>by kernel_rfl
 | 14,_=>by kernel_rfl
 | 15,_=>by kernel_rfl
 | 16,_=>by kernel_rfl
 | 17,_=>by kernel_rfl
 | 18,_=>by kernel_rfl
 | 19,_=>by kernel_rfl
 | 20,_=>by kernel_rfl
 | 21,_=>by kernel_rfl
 | 22,_=>by kernel_rfl
 | 23,_=>by kernel_rfl
 | 24,_=>by kernel_rfl
 | 25,_=>by kernel_rfl
 | 26,_=>by kernel_rfl
 | 27,_=>by kernel_rfl
 | 28,_=>by kernel_rfl
 | 29,_=>by kernel_rfl
 | 30,_=>by kernel_rfl
 | 31,_=>by kernel_rfl
 | i+32,h=>absurd h (by omega)
theorem sm (s:bR) (x:Sl Se) : ∀ i,i<32→laid (aQ s) (275+i) [x.v]=aQ { s with sp:=du s.sp i x }
 | 0,_=>by kernel_rfl
 | 1,_=>by kernel_rfl
 | 2,_=>by kernel_rfl
 | 3,_=>by kernel_rfl
 | 4,_=>by kernel_rfl
 | 5,_=>by kernel_rfl
 | 6,_=>by kernel_rfl
 | 7,_=>by kernel_rfl
 | 8,_=>by kernel_rfl
 | 9,_=>by kernel_rfl
 | 10,_=>by kernel_rfl
 | 11,_=>by kernel_rfl
 | 12,_=>by kernel_rfl
 | 13,_=>by kernel_rfl
 | 14,_=>by kernel_rfl
 | 15,_=>by kernel_rfl
 | 16,_=>by kernel_rfl
 | 17,_=>by kernel_rfl
 | 18,_=>by kernel_rfl
 | 19,_=>by kernel_rfl
 | 20,_=>by kernel_rfl
 | 21,_=>by kernel_rfl
 | 22,_=>by kernel_rfl
 | 23,_=>by kernel_rfl
 | 24,_=>by kernel_rfl
 | 25,_=>by kernel_rfl
 | 26,_=>by kernel_rfl
 | 27,_=>by kernel_rfl
 | 28,_=>by kernel_rfl
 | 29,_=>by kernel_rfl
 | 30,_=>by kernel_rfl
 | 31,_=>by kernel_rfl
 | i+32,h=>absurd h (by omega)
theorem aX (s:bR):(aQ s).length=376:=by kernel_rfl
theorem lX (s:bR):(gj s).length=380:=by kernel_rfl
theorem fv (s:bR) : ∀ v∈aQ s,aW v=true:=by
 have h:(aQ s).all aW=true:=by kernel_rfl
 exact fun v hv=>List.all_eq_true.1 h v hv
theorem gR (s:bR):dM (aQ s) s:=
 ⟨aX s,fv s,yz s,yq s,by kernel_rfl,by kernel_rfl,by kernel_rfl,by kernel_rfl,by kernel_rfl,by kernel_rfl,tj s,by kernel_rfl,by kernel_rfl,by kernel_rfl,by kernel_rfl,by kernel_rfl,by kernel_rfl,by kernel_rfl,by kernel_rfl,by kernel_rfl,by kernel_rfl⟩
end Go.Proofs.YtlnhdpjnlffaoaaGreatDoor
