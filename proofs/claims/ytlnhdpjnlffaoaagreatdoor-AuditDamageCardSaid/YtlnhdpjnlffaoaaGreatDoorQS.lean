/- Parts of the proof: AdN, AdE, AdY, AdG, AdH, AdI, AdJ, AbT, AbU, AbV, AdO, AdP, AdU, AbW. -/
import Derived.Test.YtlnhdpjnlffaoaaGreatDoorQQ
import Derived.Test.YtlnhdpjnlffaoaaGreatDoorQR
import Derived.Test.YtlnhdpjnlffaoaaGreatDoorQO
import Derived.Test.YtlnhdpjnlffaoaaGreatDoorQP
import Derived.Test.YtlnhdpjnlffaoaaGreatDoorQL
import Derived.Test.YtlnhdpjnlffaoaaGreatDoorTie
import Derived.Test.YtlnhdpjnlffaoaaGreatDoorCards
import Derived.ProofKit
import Derived.OpenShut
import Derived.LaidMore
import Derived.Lay
import Derived.SevenTiedAt
import Derived.Stop.Joined
import Derived.ChangeMaps5
namespace Go.Proofs.YtlnhdpjnlffaoaaGreatDoor
open Go Go.Sx
set_option maxRecDepth 100000
set_option maxHeartbeats 4000000
set_option linter.unusedVariables false
set_option linter.unusedSimpArgs false
def yk:List Int:=mv 10 ++ [16]
def Bt.zB (x:Bt) (hq:Hd) (w:World):Prop:=(((x.cp.At bB w∧x.ti.At cj w)∧af w hq.a (yk.map bK))∧x.pg.As dg w)∧x.bk.As dg w
def tj (nx:Int) (cl:List Cp) (v:Value) (F:Fx):Prop:=∃ (x:Bt) (hq:Hd),x.nx=nx∧x.cp.l=cl∧x.ti.l=nj∧x.Ok∧hq.Ok 11∧v = .agg ⟨aR (x.mT cT ⟨hq,yk⟩)⟩∧F=⟨x.zB hq,[]⟩
theorem iR {h:Hd} {n:Nat} (hh:h.Ok n) (hn:0<n) : ∃ a c,h=⟨some a,c⟩∧n≤c:=by
 obtain⟨_ | a,c⟩:=h
 · have:=hh.nil rfl
   omega
 · exact⟨a,c,rfl,hh.cap⟩
theorem rJ (nx:Int) (cl:List Cp) (hcl0:0<cl.length) (hcl:cl.length≤1000) (x:Bt) (hq:Hd) (bk bs:Nat) (h1:x.nx=nx) (h2:x.cp.l=cl) (h3:x.ti.l=nj) (hx:x.Ok) (hhq:hq.Ok 11) :
 ah Tryz.prog 15 [.pointer (some ⟨bk,0,none⟩)] (fun w=>((x.At w∧af w hq.a ((mv 10 ++ [16]).map bK))∧af w (some ⟨bs,0,none⟩) (aR (x.mT cT ⟨hq,mv 10 ++ [16]⟩)))∧af w (some ⟨bk,0,none⟩) [.pointer (some ⟨bs,0,none⟩)])
  (tj nx cl):=by
 obtain⟨nx',⟨hc,cl'⟩,⟨ht,tl⟩,⟨hp,pl⟩,⟨hb,bl⟩⟩:=x
 dsimp only at h1 h2 h3
 subst h1 h2 h3
 obtain⟨o1,o2,o3,o4,o5,o6⟩:=hx
 dsimp only at o1 o2 o3 o4 o5 o6
 obtain⟨a1,c1,rfl,g1⟩:=iR o1 hcl0
 obtain⟨a2,c2,rfl,g2⟩:=iR o2 (by decide)
 obtain⟨a3,c3,rfl,g3⟩:=iR o3 (by rw[o5.1];decide)
 obtain⟨a4,c4,rfl,g4⟩:=iR o4 (by rw[o6.1];decide)
 obtain⟨aq,cq,rfl,gq⟩:=iR hhq (by decide)
 rw[o5.1] at g3
 rw[o6.1] at g4
 obtain⟨ql,hql⟩ : ∃ ql,mv 10 ++ [16]=ql:=⟨_,rfl⟩
 have hqle:yk=ql:=hql
 have hqll:ql.length=11:=by rw[← hql];decide
 rw[hql]
 have hZl:(aR iW).length=376:=bc _
 have key : ∀ (Z:List Value) (w0:World) (av:Nat→Prop) (b2 b3:Nat),Z.length=376→c7 3 (tj nx' cl') (aR (Bt.mT ⟨nx',⟨⟨some a1,c1⟩,cl'⟩,⟨⟨some a2,c2⟩,nj⟩,⟨⟨some a3,c3⟩,pl⟩,⟨⟨some a4,c4⟩,bl⟩⟩ cT ⟨⟨some aq,cq⟩,ql⟩)) Z
  (fun w=>Bt.At ⟨nx',⟨⟨some a1,c1⟩,cl'⟩,⟨⟨some a2,c2⟩,nj⟩,⟨⟨some a3,c3⟩,pl⟩,⟨⟨some a4,c4⟩,bl⟩⟩ w∧af w (some aq) (ql.map bK)) w0 av b2 b3:=by
  intro Z w0 av b2 b3 hZ
  refine AQ (gQ _ _) (AX (gQ _ _) (A5 (gQ _ _) ?_))
  refine AU nx' a1 c1 cl' a2 c2 nj aq cq ql _ _ hcl (by decide) (by omega) _ (fun k1 k2 kq hk1 hk2 hkq=>?_) (fun w hw=>⟨hw.1.1,hw.1.2.1,hw.2⟩)
  have s7:=AZ (Rel:=tj nx' cl') (Z:=Z) (w0:=w0) (av:=av) (b2:=b2) (b3:=b3) nx' ⟨k1,cl'⟩ ⟨k2,nj⟩ ⟨kq,ql⟩ a3 c3 pl a4 c4 bl o5 o6 g3 g4 (fun w=>(af w k1.a (cl'.flatMap bB)∧af w k2.a (nj.flatMap cj))∧af w kq.a (ql.map bK)) (fun a3' c3' pl' a4' c4' bl' z1 z2 z3 z4=>?_)
  · unfold c7 at s7 ⊢
    refine az.bJ ?_ s7
    refine ao.of_le ⟨List.Sublist.refl _,fun w hw=>?_⟩
    obtain⟨⟨⟨⟨⟨e1,e2,e3,e4⟩,e5⟩,e6⟩,e7⟩,e8⟩:=hw
    exact⟨⟨⟨⟨e6,e7⟩,e8⟩,e3⟩,e4⟩
  have hO:=gQ ⟨nx',⟨k1,cl'⟩,⟨k2,nj⟩,⟨⟨some a3',c3'⟩,pl'⟩,⟨⟨some a4',c4'⟩,bl'⟩⟩ ⟨kq,ql⟩
  refine AN hO (AW hO (z_ hO (Ay hO (Ap hO (AA hO (z6 hO hZ ?_))))))
  refine⟨⟨nx',⟨k1,cl'⟩,⟨k2,nj⟩,⟨⟨some a3',c3'⟩,pl'⟩,⟨⟨some a4',c4'⟩,bl'⟩⟩,kq,rfl,rfl,rfl,⟨hk1,hk2,⟨fun h=>(by cases h),by rw[z1.1];exact z3⟩,⟨fun h=>(by cases h),by rw[z2.1];exact z4⟩,z1,z2⟩,by rw[← hqll];exact hkq,by rw[hqle],?_⟩
  unfold Bt.zB
  rw[hqle]
  rfl
 obtain⟨S,hS⟩ : ∃ S,aR (Bt.mT ⟨nx',⟨⟨some a1,c1⟩,cl'⟩,⟨⟨some a2,c2⟩,nj⟩,⟨⟨some a3,c3⟩,pl⟩,⟨⟨some a4,c4⟩,bl⟩⟩ cT ⟨⟨some aq,cq⟩,ql⟩)=S:=⟨_,rfl⟩
 obtain⟨Z,hZ⟩ : ∃ Z,aR iW=Z:=⟨_,rfl⟩
 have hSl:S.length=376:=by rw[← hS];exact bc _
 have hS1 : ∀ v∈S,aV v=true:=by rw[← hS];exact fC _
 rw[hS] at key ⊢
 rw[hZ] at hZl
 refine ah.f_ ae Tryz.func15 (c:=rC) rfl (by decide) (n:=Tryz.f15.ntmps - 1) rfl fun w0 av=>?_
 show az Tryz.prog w0 (fun _ _=>False) av rC _ [] [] _ (xQ (tj nx' cl'))
 refine az.bT ae 3 (ι:=Nat×Nat) (fun _=>True) (fun x=>jr x.1 x.2) (fun _=>[]) (fun x=>⟨fun w=>Bt.At ⟨nx',⟨⟨some a1,c1⟩,cl'⟩,⟨⟨some a2,c2⟩,nj⟩,⟨⟨some a3,c3⟩,pl⟩,⟨⟨some a4,c4⟩,bl⟩⟩ w∧af w (some aq) (ql.map bK),[(x.1,Row.c Z),(x.2,Row.c S)]⟩) ?_ ?_
 · conv=>whnf
   repeat (refine aa.of ?_;conv=>whnf)
   refine ar.cW ae rfl (z:=Z) (by rw[← hZ];kernel_rfl) fun b2=>?_
   conv=>whnf
   repeat (refine aa.of ?_;conv=>whnf)
   refine ar.aj (ak.vL ae (t:=142) rfl rfl ?_)
   conv=>whnf
   repeat (refine aa.of ?_;conv=>whnf)
   refine ar.aj (ak.aG ae rfl rfl (ad:=⟨bk,0,none⟩) (k:=0) (L:=[.pointer (some ⟨bs,0,none⟩)]) (v:=.pointer (some ⟨bs,0,none⟩)) (.fact fun w hw=>hw.2) (fun _=>rfl) rfl ?_)
   conv=>whnf
   repeat (refine aa.of ?_;conv=>whnf)
   refine ar.aj (ak.aT ae rfl rfl (ad:=⟨bs,0,none⟩) (k:=0) (L:=S) (m:=S) (.fact fun w hw=>hw.1.2) rfl (by rw[List.drop_zero];exact List.take_of_length_le (by rw[hSl];exact Nat.le_refl _)) hSl ?_)
   conv=>whnf
   repeat (refine aa.of ?_;conv=>whnf)
   refine ar.cW ae rfl (z:=Z) (by rw[← hZ];kernel_rfl) fun b3=>?_
   conv=>whnf
   repeat (refine aa.of ?_;conv=>whnf)
   refine aM.bJ (F':=⟨fun w=>Bt.At ⟨nx',⟨⟨some a1,c1⟩,cl'⟩,⟨⟨some a2,c2⟩,nj⟩,⟨⟨some a3,c3⟩,pl⟩,⟨⟨some a4,c4⟩,bl⟩⟩ w∧af w (some aq) (ql.map bK),[(b2,Row.c Z)] ++ [(b3,Row.c Z)] ++ []⟩) (ao.of_le ⟨by simp,fun w hw=>hw.1.1⟩) ?_
   refine aM.aY ae rfl (b:=b3) (k:=0) (X:=S) rfl (by exact hSl) (by exact hS1) (by rw[hZl];exact Nat.le_refl _) (cw (by rw[hZl];exact hSl)) ?_
   conv=>whnf
   repeat (refine aa.of ?_;conv=>whnf)
   refine⟨(b2,b3),trivial,[],⟨by decide,by simp,rfl⟩,?_,ao.of_le ⟨by simp,fun w hw=>hw⟩⟩
   repeat (first | exact ax.nil | refine ax.any ?_ | refine ax.cons ?_)
 · intro x _ bs' hbs'
   obtain rfl:=List.eq_nil_of_length_eq_zero hbs'
   exact key Z w0 av x.1 x.2 hZl
structure Ln where
 a:Int
 b:Int
 c:Int
 l:List Int
 deriving Inhabited,DecidableEq
def bo (n:Int):Value:=.int .i64 n
def uP (x:Ln) (h:Hd):List Value:=[bo x.a,bo x.b,bo x.c,h.v x.l.length]
def bq:List Ln:=[⟨1,3,1,[]⟩,⟨1,4,1,[]⟩,⟨1,5,1,[]⟩,⟨1,10,1,[]⟩,⟨1,2,6,[1]⟩,⟨1,3,6,[1]⟩,⟨1,4,6,[1]⟩,⟨1,5,6,[1]⟩,⟨1,6,6,[1]⟩,⟨1,7,6,[1]⟩,⟨1,8,6,[1]⟩,⟨1,9,6,[1]⟩,⟨1,10,6,[1]⟩,⟨1,1,7,[2,3,4,5,6,7,8,9,10]⟩,⟨1,4,8,[3]⟩,⟨1,4,9,[3]⟩,⟨1,4,10,[3]⟩,⟨1,3,11,[4]⟩,⟨1,5,12,[3]⟩,⟨1,5,13,[3]⟩,⟨1,5,14,[3]⟩,⟨1,3,15,[5]⟩,⟨1,10,16,[3]⟩,⟨1,3,17,[10]⟩,⟨1,6,18,[5]⟩,⟨1,5,19,[6]⟩,⟨1,7,20,[4,6]⟩,⟨1,4,21,[7]⟩,⟨1,6,21,[7]⟩,⟨1,9,22,[5]⟩,⟨1,5,23,[9]⟩,⟨1,8,24,[5]⟩,⟨1,5,25,[8]⟩,⟨1,2,26,[1,2,3,4,5,6,7,8,9,10]⟩,⟨1,1,27,[2]⟩,⟨1,2,27,[2]⟩,⟨1,3,27,[2]⟩,⟨1,4,27,[2]⟩,⟨1,5,27,[2]⟩,⟨1,6,27,[2]⟩,⟨1,7,27,[2]⟩,⟨1,8,27,[2]⟩,⟨1,9,27,[2]⟩,⟨1,10,27,[2]⟩,⟨2,0,1,[1,2,3,4,5,6,7,8,9,10]⟩,⟨2,0,2,[3,4,5,10]⟩,⟨2,0,3,[7,8,9]⟩,⟨2,0,4,[1,2,3,4,5,6,7,8,9,10]⟩,⟨2,0,5,[4]⟩,⟨2,0,6,[4]⟩,⟨2,0,7,[4]⟩,⟨2,0,8,[4]⟩,⟨2,0,9,[4]⟩,⟨2,0,10,[4]⟩,⟨2,0,11,[3]⟩,⟨2,0,12,[3]⟩,⟨2,0,13,[3]⟩,⟨2,0,14,[3]⟩,⟨2,0,15,[5]⟩,⟨2,0,16,[1]⟩,⟨3,0,1,[7]⟩,⟨3,0,2,[8]⟩,⟨3,0,3,[9]⟩]
def lG (x:Ln×Hd):List Value:=uP x.1 x.2
def cg (P:List (Ln×Hd)) (w:World):Prop:=∀ x∈P,af w x.2.a (x.1.l.map bo)
structure PG (k:Nat) (P:List (Ln×Hd)) (a:Option Addr) (cap:Nat) (C:List Value):Prop where
 own:Sx.cE 4 P.length a cap C (P.flatMap lG)
 ok : ∀ x∈P,x.2.Ok x.1.l.length
 eq:P.map Prod.fst=bq.take k
 lt:k≤63
theorem PG.len {k:Nat} {P:List (Ln×Hd)} {a:Option Addr} {cap:Nat} {C:List Value} (h:PG k P a cap C):P.length=k:=by
 have:=congrArg List.length h.eq
 rw[List.length_map,List.length_take] at this
 have h1:bq.length=63:=by decide
 have:=h.lt
 omega
theorem PG.next {k:Nat} {P:List (Ln×Hd)} {a:Option Addr} {cap:Nat} {C:List Value} (h:PG k P a cap C) {x:Ln} {hd:Hd} (hx:bq[k]? = some x) (hh:hd.Ok x.l.length) {a':Option Addr} {cap':Nat} {C':List Value} (hO:Sx.cE 4 (P.length+1) a' cap' C' (P.flatMap lG++uP x hd)):PG (k+1) (P ++ [(x,hd)]) a' cap' C':=by
 have hk:k<bq.length:=(List.getElem?_eq_some_iff.1 hx).1
 refine⟨?_,fun y hy=>?_,?_,?_⟩
 · rw[List.length_append,List.flatMap_append]
   simpa [lG] using hO
 · rcases List.mem_append.1 hy with h1 | h1
   · exact h.ok y h1
   · rw[List.mem_singleton] at h1
     rw[h1]
     exact hh
 · rw[List.map_append,h.eq,List.take_add_one,hx]
   rfl
 · have h1:bq.length=63:=by decide
   omega
theorem cg.next {P:List (Ln×Hd)} {w:World} (h:cg P w) {x:Ln} {hd:Hd} (hr:af w hd.a (x.l.map bo)):cg (P ++ [(x,hd)]) w:=by
 intro y hy
 rcases List.mem_append.1 hy with h1 | h1
 · exact h y h1
 · rw[List.mem_singleton] at h1
   rw[h1]
   exact hr
theorem ao.a_ {D:World→Prop} {b:Nat} {C:List Value} {rs:List (Nat×Row)}:ao ⟨D,rs ++ [(b,Row.c C)]⟩ ⟨fun w=>D w∧af w (some ⟨b,0,none⟩) C,rs⟩:=
 ao.trans (ao.perm List.perm_append_comm) ao.share1
theorem wU {a:Option Addr} {C:List Value} : ∀ r∈bn a C,CM r.2:=by
 intro r hr
 unfold bn at hr
 split at hr
 · cases hr
 · rw[List.mem_singleton] at hr
   subst hr
   exact zy _
def aA (b1 n:Nat) (a:Option Addr) (cap:Nat) (C:List Value):List (Nat×Row):=[(b1,Row.c [.slice a n cap])]++bn a C
theorem ku {b1 n:Nat} {a:Option Addr} {cap:Nat} {C:List Value} : ∀ r∈aA b1 n a cap C,CM r.2:=by
 intro r hr
 unfold aA at hr
 rcases List.mem_append.1 hr with h | h
 · rw[List.mem_singleton] at h
   subst h
   exact zy _
 · exact wU r h
theorem bL (b1 n:Nat) (a:Option Addr) (cap:Nat) (C M:List Value) (hO:Sx.cE 4 n a cap C M) (hn:n≤1000) (kind to:Int) (v:Value) (hv:v.cells.toList = [v]∧aV v=true∧∃ h m,v=Hd.v h m) :
 cD Tryz.prog 140 [.pointer (some ⟨b1,0,none⟩),.int .i64 kind,.int .i64 to,v] (aA b1 n a cap C) (fun _=>True)
  (fun _ F=>∃ a' cap' C',Sx.cE 4 (n+1) a' cap' C' (M ++ [bo 1,bo to,bo kind,v])∧F=⟨fun _=>True,aA b1 (n+1) a' cap' C'⟩):=by
 obtain⟨-,-,⟨ha,hc⟩,m,rfl⟩:=hv
 refine cD.aK ae Tryz.func140 rfl (by decide) (n:=Tryz.f140.ntmps - 4) rfl rfl ku fun w0 av=>?_
 conv=>whnf
 repeat (refine aa.of ?_;conv=>whnf)
 refine ar.aj (ak.aG ae rfl rfl (ad:=⟨b1,0,none⟩) (k:=0) (L:=[.slice a n cap]) (v:=.slice a n cap) (aF.row (by simp[aA])) (fun _=>rfl) rfl ?_)
 conv=>whnf
 repeat (refine aa.of ?_;conv=>whnf)
 refine ar.build ae rfl rfl rfl [.agg ⟨[bo 1,bo to,bo kind,.slice ha m hc]⟩] rfl rfl (by simp[Value.cells]) (by decide) fun b5=>?_
 conv=>whnf
 repeat (refine aa.of ?_;conv=>whnf)
 refine ar.bJ (F':=⟨fun _=>True,[(b1,Row.c [.slice a n cap])]++bn a C ++ [(b5,Row.c [bo 1,bo to,bo kind,.slice ha m hc])]⟩) (ao.of_le ⟨by simp[Value.cells,aA],fun w hw=>hw⟩) ?_
 refine ar.dZ ae rfl rfl rfl rfl rfl rfl (M:=[bo 1,bo to,bo kind,.slice ha m hc]) hO (aF.row (by simp)) rfl (List.all_eq_true.1 (by rfl)) (by omega) (by show(n+n/4+600)*48≤2 ^ 48;omega) fun a' c' C' hO'=>?_
 conv=>whnf
 repeat (refine aa.of ?_;conv=>whnf)
 refine aM.bJ (F':=⟨fun _=>True,[] ++ [(b1,Row.c [.slice a n cap])]++bn a' C'⟩) (ao.of_le ⟨by simp,fun w hw=>hw⟩) ?_
 refine aM.aY ae rfl (b:=b1) (k:=0) (X:=[.slice a' (n+1) c']) rfl rfl (List.all_eq_true.1 (by rfl)) (Nat.le_refl _) rfl ?_
 conv=>whnf
 repeat (refine aa.of ?_;conv=>whnf)
 exact⟨_,ao.refl _,a',c',C',hO',rfl⟩
def bU (f:Nat):List Int:=(List.range (11 - f)).map fun i=>((f+i:Nat):Int)
theorem cY (f:Nat) (hf:f≤10):ah Tryz.prog 141 [.int .i64 (f:Int)] (fun _=>True) (fun v F=>∃ h:Hd,h.Ok (bU f).length∧v=h.v (bU f).length∧F=⟨fun w=>af w h.a ((bU f).map bo),[]⟩):=by
 refine ah.aK ae Tryz.func141 rfl (by decide) (n:=Tryz.f141.ntmps - 1) rfl rfl fun w0 av=>?_
 conv=>whnf
 repeat (refine aa.of ?_;conv=>whnf)
 refine az.loop ae (ι:=Nat×Option Addr×Nat×List Value) ([3,4]++List.range' 6 8) (fun x=>x.1≤11 - f∧Sx.cE 1 x.1 x.2.1 x.2.2.1 x.2.2.2 (((List.range x.1).map fun i=>((f+i:Nat):Int)).map bo))
  (fun x=>[(4,.v (.int .i64 ((f+x.1:Nat):Int))),(3,.v (.slice x.2.1 x.1 x.2.2.1))]) (fun _=>[]) (fun x=>⟨fun _=>True,[]++bn x.2.1 x.2.2.2 ++ []⟩)
  (fun x=>11 - f - x.1) (0,none,0,[]) ⟨Nat.zero_le _,Sx.cE.nil 1⟩ ?_ rfl (ao.of_le ⟨by simp[bn],fun w hw=>hw⟩) fun x hx=>?_
 · conv=>whnf
   repeat (first | exact ax.nil | refine ax.any ?_ | refine ax.cons ?_)
 obtain⟨i,a,cap,C⟩:=x
 obtain⟨hi,hO⟩:=hx
 dsimp only at hi hO ⊢
 conv=>whnf
 repeat (refine aa.of ?_;conv=>whnf)
 refine bV.split (fun hlt=>?_) (fun hlt=>?_)
 · have hlt':i<11 - f:=by
    simp[aH] at hlt
    omega
   conv=>whnf
   repeat (refine aa.of ?_;conv=>whnf)
   refine ar.build ae rfl rfl rfl [bo ((f+i:Nat):Int)] rfl rfl (by simp[Value.cells,bo]) (by decide) fun b5=>?_
   conv=>whnf
   repeat (refine aa.of ?_;conv=>whnf)
   refine ar.bJ (F':=⟨fun _=>True,[]++bn a C ++ [(b5,Row.c [bo ((f+i:Nat):Int)])]⟩) (ao.of_le ⟨by simp[Value.cells,bo],fun w hw=>hw⟩) ?_
   refine ar.dZ ae rfl rfl rfl rfl rfl rfl (M:=[bo ((f+i:Nat):Int)]) hO (aF.row (by simp)) rfl (List.all_eq_true.1 (by rfl)) (by omega) (by show(i+i/4+600)*8≤2 ^ 48;omega) fun a' c' C' hO'=>?_
   conv=>whnf
   repeat (refine aa.of ?_;conv=>whnf)
   refine⟨(i+1,a',c',C'),⟨⟨hlt',?_⟩,by dsimp only;omega⟩,?_,?_,ao.of_le ⟨by simp,fun w hw=>hw⟩⟩
   · dsimp only
     rw[List.range_succ,List.map_append,List.map_append]
     exact hO'
   · conv=>whnf
     refine⟨?_,rfl⟩
     repeat (first | exact ax.nil | refine ax.any ?_ | refine ax.cons ?_ | refine ax.eq (congrArg (fun z=>SV.v (Value.int .i64 z)) (by rw[wrap_i64 (by omega)];omega)) ?_)
   · conv=>whnf
     exact trivial
 · have hie:i=11 - f:=by
    simp[aH] at hlt
    omega
   have hcl:(bU f).length=i:=by simp[bU,hie]
   have hce:((List.range i).map fun i=>((f+i:Nat):Int))=bU f:=by rw[hie];rfl
   conv=>whnf
   repeat (refine aa.of ?_;conv=>whnf)
   refine⟨_,ao.trans (hO.share (r1:=[]) (r2:=[])) (ao.imp (D':=fun w=>af w a ((bU f).map bo)) fun w hw=>?_),⟨a,cap⟩,by rw[hcl];exact⟨hO.cm,hO.fit⟩,by rw[hcl],rfl⟩
   rw[← hce]
   exact hw.2
theorem cU (b1 n:Nat) (a:Option Addr) (cap:Nat) (C M:List Value) (hO:Sx.cE 4 n a cap C M) (hn:n≤1000) (h:Hd) (m:Nat) (kh:Hd) (ks:List Int) (hk:kh.Ok ks.length) (hkl:ks.length≤100) :
 cD Tryz.prog 142 [.pointer (some ⟨b1,0,none⟩),h.v m,kh.v ks.length] (aA b1 n a cap C) (fun w=>af w kh.a (ks.map bo))
  (fun _ F=>∃ a' cap' C',Sx.cE 4 (n+ks.length) a' cap' C' (M++ks.flatMap fun k=>[bo 2,bo 0,bo k,h.v m])∧F=⟨fun _=>True,aA b1 (n+ks.length) a' cap' C'⟩):=by
 refine cD.aK ae Tryz.func142 rfl (by decide) (n:=Tryz.f142.ntmps - 3) rfl rfl ku fun w0 av=>?_
 conv=>whnf
 repeat (refine aa.of ?_;conv=>whnf)
 refine az.loop ae (ι:=Nat×Option Addr×Nat×List Value) ([7,10]++List.range' 11 15) (fun x=>x.1≤ks.length∧Sx.cE 4 (n+x.1) x.2.1 x.2.2.1 x.2.2.2 (M++(ks.take x.1).flatMap fun k=>[bo 2,bo 0,bo k,h.v m]))
  (fun x=>[(10,.v (.int .i64 (x.1:Int)))]) (fun _=>[]) (fun x=>⟨fun w=>af w kh.a (ks.map bo),aA b1 (n+x.1) x.2.1 x.2.2.1 x.2.2.2⟩)
  (fun x=>ks.length - x.1) (0,a,cap,C) ⟨Nat.zero_le _,by simpa using hO⟩ ?_ rfl (ao.refl _) fun x hx=>?_
 · conv=>whnf
   repeat (first | exact ax.nil | refine ax.any ?_ | refine ax.cons ?_)
 obtain⟨i,a1,cap1,C1⟩:=x
 obtain⟨hi,hO1⟩:=hx
 dsimp only at hi hO1 ⊢
 conv=>whnf
 repeat (refine aa.of ?_;conv=>whnf)
 refine bV.split (fun hlt=>?_) (fun hlt=>?_)
 · have hlt':i<ks.length:=by
    simp[au] at hlt
    omega
   conv=>whnf
   repeat (refine aa.of ?_;conv=>whnf)
   refine ar.aj (ak.index ae rfl rfl rfl (by omega) (by omega) hk.nil fun ad had=>?_)
   conv=>whnf
   repeat (refine aa.of ?_;conv=>whnf)
   refine ar.aj (ak.load ae rfl rfl (ad:=ad) (k:=i) (L:=ks.map bo) (v:=.int .i64 ks[i]) (.fact fun w hw=>had ▸ hw) (by simp) (by rw[List.getElem?_map,List.getElem?_eq_getElem hlt'];rfl) ?_)
   conv=>whnf
   repeat (refine aa.of ?_;conv=>whnf)
   refine ar.aj (ak.aG ae rfl rfl (ad:=⟨b1,0,none⟩) (k:=0) (L:=[.slice a1 (n+i) cap1]) (v:=.slice a1 (n+i) cap1) (aF.row (by simp[aA])) (fun _=>rfl) rfl ?_)
   conv=>whnf
   repeat (refine aa.of ?_;conv=>whnf)
   refine ar.build ae rfl rfl rfl [.agg ⟨[bo 2,bo 0,bo ks[i],h.v m]⟩] rfl rfl (by simp[Value.cells]) (by decide) fun b5=>?_
   conv=>whnf
   repeat (refine aa.of ?_;conv=>whnf)
   refine ar.bJ (F':=⟨fun w=>af w kh.a (ks.map bo),[(b1,Row.c [.slice a1 (n+i) cap1])]++bn a1 C1 ++ [(b5,Row.c [bo 2,bo 0,bo ks[i],h.v m])]⟩) (ao.of_le ⟨by simp[Value.cells,aA],fun w hw=>hw⟩) ?_
   refine ar.dZ ae rfl rfl rfl rfl rfl rfl (M:=[bo 2,bo 0,bo ks[i],h.v m]) hO1 (aF.row (by simp)) rfl (List.all_eq_true.1 (by rfl)) (by omega) (by show(n+i+(n+i)/4+600)*48≤2 ^ 48;omega) fun a' c' C' hO'=>?_
   conv=>whnf
   repeat (refine aa.of ?_;conv=>whnf)
   refine aM.bJ (F':=⟨fun w=>af w kh.a (ks.map bo),[] ++ [(b1,Row.c [.slice a1 (n+i) cap1])]++bn a' C'⟩) (ao.of_le ⟨by simp,fun w hw=>hw⟩) ?_
   refine aM.aY ae rfl (b:=b1) (k:=0) (X:=[.slice a' (n+i+1) c']) rfl rfl (List.all_eq_true.1 (by rfl)) (Nat.le_refl _) rfl ?_
   conv=>whnf
   repeat (refine aa.of ?_;conv=>whnf)
   refine⟨(i+1,a',c',C'),⟨⟨hlt',?_⟩,by dsimp only;omega⟩,?_,?_,ao.refl _⟩
   · dsimp only
     rw[List.take_succ_eq_append_getElem hlt',List.flatMap_append,← List.append_assoc]
     show Sx.cE 4 (n+i+1) _ _ _ _
     simpa using hO'
   · conv=>whnf
     refine⟨?_,rfl⟩
     repeat (first | exact ax.nil | refine ax.any ?_ | refine ax.cons ?_ | refine ax.eq (by rw[wrap_i64 (by omega)];rfl) ?_)
   · conv=>whnf
     exact trivial
 · have hie:i=ks.length:=by
    simp[au] at hlt
    omega
   subst hie
   rw[List.take_length] at hO1
   conv=>whnf
   repeat (refine aa.of ?_;conv=>whnf)
   exact⟨⟨fun _=>True,aA b1 (n+ks.length) a1 cap1 C1⟩,ao.of_le ⟨List.Sublist.refl _,fun w hw=>trivial⟩,a1,cap1,C1,hO1,rfl⟩
noncomputable def oQ:Code:=Tryz.f76.body.getD .skip
def dM (b1:Nat):List SV:=[.any,.v (.pointer (some ⟨b1,0,none⟩))]++List.replicate 135 .any
def pW (b1:Nat) (hl:Hd):List SV:=[.any,.v (.pointer (some ⟨b1,0,none⟩)),.any,.any,.any,.any,.any,.any,.any,.any,.any,.any,.v (hl.v 10)]++List.replicate 124 .any
def xR (v:Value) (F:Fx):Prop:=∃ (P:List (Ln×Hd)) (a:Addr) (c:Nat),P.map Prod.fst=bq∧(∀ x∈P,x.2.Ok x.1.l.length)∧63≤c∧v = .slice (some a) 63 c∧F=⟨fun w=>af w (some a) (P.flatMap lG)∧cg P w,[]⟩
noncomputable def vP:Exit→KT:=j3 aU Tryz.f76.results.toList (dp xR)
def LA (n k:Nat) (w0:World) (av:Nat→Prop) (b1:Nat):Prop:=∀ a cap C P,PG k P a cap C→az Tryz.prog w0 (fun _ _=>False) av (cG n oQ) (dM b1) [] [] ⟨cg P,[]++aA b1 k a cap C ++ []⟩ vP
def LB (n k:Nat) (w0:World) (av:Nat→Prop) (b1:Nat):Prop:=∀ hl a cap C P,hl.Ok 10→PG k P a cap C→az Tryz.prog w0 (fun _ _=>False) av (cG n oQ) (pW b1 hl) [] [] ⟨fun w=>cg P w∧af w hl.a ((bU 1).map bo),[]++aA b1 k a cap C ++ []⟩ vP
section
variable {w0:World} {av:Nat→Prop} {b1:Nat}
theorem dD (h:Hd) (m:Nat):(h.v m).cells.toList = [h.v m]∧aV (h.v m)=true∧∃ h' m',h.v m=Hd.v h' m':=⟨rfl,rfl,h,m,rfl⟩
theorem bR (b m:Nat):(⟨some ⟨b,0,none⟩,m⟩:Hd).Ok m:=⟨fun h=>(by cases h),Nat.le_refl _⟩
theorem AR (h:LA 3 4 w0 av b1):LA 2 0 w0 av b1:=by
 intro a cap C P g
 refine az.bT ae 1 (ι:=Option Addr×Nat×List Value×List (Ln×Hd)) (fun x=>PG 4 x.2.2.2 x.1 x.2.1 x.2.2.1) (fun _=>dM b1) (fun _=>[]) (fun x=>⟨cg x.2.2.2,[]++aA b1 4 x.1 x.2.1 x.2.2.1 ++ []⟩) ?_ ?_
 rotate_left
 · intro x hx bs' hbs'
   obtain rfl:=List.eq_nil_of_length_eq_zero hbs'
   rw[aP]
   exact h x.1 x.2.1 x.2.2.1 x.2.2.2 hx
 · conv=>whnf
   repeat (refine aa.of ?_;conv=>whnf)
   refine ar.build ae rfl rfl rfl [.int .i64 3,.int .i64 4,.int .i64 5,.int .i64 10] rfl rfl (by simp[Value.cells]) (by decide) fun bv=>?_
   conv=>whnf
   repeat (refine aa.of ?_;conv=>whnf)
   obtain⟨hv,hhv⟩ : ∃ hv:Hd,hv=⟨some ⟨bv,0,none⟩,4⟩:=⟨_,rfl⟩
   have hvo:hv.Ok 4:=by rw[hhv];exact bR _ _
   have hva:hv.a=some ⟨bv,0,none⟩:=by rw[hhv]
   obtain⟨L,hL⟩ : ∃ L:List Int,L = [3,4,5,10]:=⟨_,rfl⟩
   have hE:ao (⟨cg P,([]++aA b1 0 a cap C ++ []) ++ [(bv,Row.c [.int .i64 3,.int .i64 4,.int .i64 5,.int .i64 10])]⟩:Fx) ⟨fun w=>cg P w∧af w hv.a (L.map bo),[]++aA b1 (0+0) a cap C ++ []⟩:=by rw[hhv,hL];exact ao.a_
   have hLl:L.length=4:=by rw[hL];decide
   have hLn : ∀ i,i<4→bq[0+i]? = some ⟨1,L[i]!,1,[]⟩:=by rw[hL];decide
   refine az.loop ae (ι:=Nat×Option Addr×Nat×List Value×List (Ln×Hd)) ([3,17]++List.range' 18 7) (fun x=>x.1≤4∧PG (0+x.1) x.2.2.2.2 x.2.1 x.2.2.1 x.2.2.2.1) (fun x=>[(17,.v (.int .i64 (x.1:Int)))]) (fun _=>[])
    (fun x=>⟨fun w=>cg x.2.2.2.2 w∧af w hv.a (L.map bo),[]++aA b1 (0+x.1) x.2.1 x.2.2.1 x.2.2.2.1 ++ []⟩) (fun x=>4 - x.1) (0,a,cap,C,P) ⟨Nat.zero_le _,g⟩ ?_ rfl (ao.trans (ao.of_le ⟨by simp[Value.cells],fun w hw=>hw⟩) hE) fun x hx=>?_
   · conv=>whnf
     repeat (first | exact ax.nil | refine ax.any ?_ | refine ax.cons ?_)
   clear g hE
   obtain⟨i,a,cap,C,P⟩:=x
   obtain⟨hi,g⟩:=hx
   dsimp only at hi g ⊢
   have hl:=g.len
   have hO:=g.own
   rw[hl] at hO
   conv=>whnf
   repeat (refine aa.of ?_;conv=>whnf)
   refine bV.split (fun hlt=>?_) (fun hlt=>?_)
   · have hlt':i<4:=by
      simp[au] at hlt
      omega
     have hx:=hLn i hlt'
     have hLi:L[i]! = L[i]:=by simp[hLl,hlt']
     rw[hLi] at hx
     conv=>whnf
     repeat (refine aa.of ?_;conv=>whnf)
     refine ar.aj (ak.index ae rfl rfl rfl (by omega) (by omega) (fun h=>by cases h) fun ad had=>?_)
     conv=>whnf
     repeat (refine aa.of ?_;conv=>whnf)
     refine ar.aj (ak.load ae rfl rfl (ad:=ad) (k:=i) (L:=L.map bo) (v:=.int .i64 L[i]) (.fact fun w hw=>by rw[← had,← hva];exact hw.2) (by simp) (by rw[List.getElem?_map,List.getElem?_eq_getElem (by omega)];rfl) ?_)
     conv=>whnf
     repeat (refine aa.of ?_;conv=>whnf)
     refine aw.rows (bL b1 (0+i) a cap C _ hO (by omega) 1 L[i] (Hd.v Hd.nil 0) (dD _ _)) (fun w hw=>trivial) (fun v F hv'=>?_)
     obtain⟨a',c',C',hO',rfl⟩:=hv'
     conv=>whnf
     repeat (refine aa.of ?_;conv=>whnf)
     refine⟨(i+1,a',c',C',P ++ [(⟨1,L[i],1,[]⟩,Hd.nil)]),⟨⟨hlt',g.next hx Hd.lY (by rw[hl];exact hO')⟩,by dsimp only;omega⟩,?_,?_,ao.of_le ⟨by first | exact List.Sublist.refl _ | simp,fun w hw=>⟨hw.1.1.next (show af w Hd.nil.a (([]:List Int).map bo) from rfl),hw.1.2⟩⟩⟩
     · conv=>whnf
       refine⟨?_,rfl⟩
       repeat (first | exact ax.nil | refine ax.any ?_ | refine ax.cons ?_ | refine ax.eq (by rw[wrap_i64 (by omega)];rfl) ?_)
     · conv=>whnf
       exact trivial
   · have hie:i=4:=by
      simp[au] at hlt
      omega
     subst hie
     conv=>whnf
     repeat (refine aa.of ?_;conv=>whnf)
     refine⟨(a,cap,C,P),g,[],⟨by decide,by simp,rfl⟩,?_,ao.of_le ⟨List.Sublist.refl _,fun w hw=>hw.1⟩⟩
     repeat (first | exact ax.nil | refine ax.any ?_ | refine ax.cons ?_)
theorem AO (h:LA 4 13 w0 av b1):LA 3 4 w0 av b1:=by
 intro a cap C P g
 refine az.bT ae 1 (ι:=Option Addr×Nat×List Value×List (Ln×Hd)) (fun x=>PG 13 x.2.2.2 x.1 x.2.1 x.2.2.1) (fun _=>dM b1) (fun _=>[]) (fun x=>⟨cg x.2.2.2,[]++aA b1 13 x.1 x.2.1 x.2.2.1 ++ []⟩) ?_ ?_
 rotate_left
 · intro x hx bs' hbs'
   obtain rfl:=List.eq_nil_of_length_eq_zero hbs'
   rw[aP]
   exact h x.1 x.2.1 x.2.2.1 x.2.2.2 hx
 · conv=>whnf
   repeat (refine aa.of ?_;conv=>whnf)
   refine aw.pure (cY 2 (by decide)) (fun w hw=>trivial) (fun v F hv=>?_)
   obtain⟨hv,hvo,rfl,rfl⟩:=hv
   conv=>whnf
   repeat (refine aa.of ?_;conv=>whnf)
   obtain⟨L,hL⟩ : ∃ L:List Int,L=bU 2:=⟨_,rfl⟩
   have hE:ao (⟨fun w=>cg P w∧af w hv.a ((bU 2).map bo),[]++aA b1 4 a cap C ++ []⟩:Fx) ⟨fun w=>cg P w∧af w hv.a (L.map bo),[]++aA b1 (4+0) a cap C ++ []⟩:=by rw[hL];exact ao.refl _
   have hLl:L.length=9:=by rw[hL];decide
   have hLn : ∀ i,i<9→bq[4+i]? = some ⟨1,L[i]!,6,[1]⟩:=by rw[hL];decide
   refine az.loop ae (ι:=Nat×Option Addr×Nat×List Value×List (Ln×Hd)) ([5,26]++List.range' 27 7) (fun x=>x.1≤9∧PG (4+x.1) x.2.2.2.2 x.2.1 x.2.2.1 x.2.2.2.1) (fun x=>[(26,.v (.int .i64 (x.1:Int)))]) (fun _=>[])
    (fun x=>⟨fun w=>cg x.2.2.2.2 w∧af w hv.a (L.map bo),[]++aA b1 (4+x.1) x.2.1 x.2.2.1 x.2.2.2.1 ++ []⟩) (fun x=>9 - x.1) (0,a,cap,C,P) ⟨Nat.zero_le _,g⟩ ?_ rfl (ao.trans (ao.of_le (F':=⟨fun w=>cg P w∧af w hv.a ((bU 2).map bo),[]++aA b1 4 a cap C ++ []⟩) ⟨by simp[Fx.and],fun w hw=>hw⟩) hE) fun x hx=>?_
   · conv=>whnf
     repeat (first | exact ax.nil | refine ax.any ?_ | refine ax.cons ?_)
   clear g hE
   obtain⟨i,a,cap,C,P⟩:=x
   obtain⟨hi,g⟩:=hx
   dsimp only at hi g ⊢
   have hl:=g.len
   have hO:=g.own
   rw[hl] at hO
   conv=>whnf
   repeat (refine aa.of ?_;conv=>whnf)
   refine bV.split (fun hlt=>?_) (fun hlt=>?_)
   · have hlt':i<9:=by
      simp[au,bU] at hlt
      omega
     have hx:=hLn i hlt'
     have hLi:L[i]! = L[i]:=by simp[hLl,hlt']
     rw[hLi] at hx
     conv=>whnf
     repeat (refine aa.of ?_;conv=>whnf)
     refine ar.aj (ak.index ae rfl rfl rfl (by omega) (by show(i:Int)<(((bU 2).length:Nat):Int);rw[← hL,hLl];omega) hvo.nil fun ad had=>?_)
     conv=>whnf
     repeat (refine aa.of ?_;conv=>whnf)
     refine ar.aj (ak.load ae rfl rfl (ad:=ad) (k:=i) (L:=L.map bo) (v:=.int .i64 L[i]) (.fact fun w hw=>had ▸ hw.2) (by simp) (by rw[List.getElem?_map,List.getElem?_eq_getElem (by omega)];rfl) ?_)
     conv=>whnf
     repeat (refine aa.of ?_;conv=>whnf)
     refine ar.build ae rfl rfl rfl [.int .i64 1] rfl rfl (by simp[Value.cells]) (by decide) fun bh=>?_
     conv=>whnf
     repeat (refine aa.of ?_;conv=>whnf)
     refine aw.bJ (F':=⟨fun w=>(cg P w∧af w hv.a (L.map bo))∧af w (some ⟨bh,0,none⟩) [.int .i64 1],[]++aA b1 (4+i) a cap C ++ []⟩) (ao.trans (ao.of_le (F':=⟨fun w=>cg P w∧af w hv.a (L.map bo),([]++aA b1 (4+i) a cap C ++ []) ++ [(bh,Row.c [.int .i64 1])]⟩) ⟨by simp[Value.cells],fun w hw=>hw⟩) ao.a_) ?_
     refine aw.rows (bL b1 (4+i) a cap C _ hO (by omega) 6 L[i] (Hd.v ⟨some ⟨bh,0,none⟩,1⟩ 1) (dD _ _)) (fun w hw=>trivial) (fun v F hv'=>?_)
     obtain⟨a',c',C',hO',rfl⟩:=hv'
     conv=>whnf
     repeat (refine aa.of ?_;conv=>whnf)
     refine⟨(i+1,a',c',C',P ++ [(⟨1,L[i],6,[1]⟩,⟨some ⟨bh,0,none⟩,1⟩)]),⟨⟨hlt',g.next hx (bR _ _) (by rw[hl];exact hO')⟩,by dsimp only;omega⟩,?_,?_,ao.of_le ⟨by first | exact List.Sublist.refl _ | simp,fun w hw=>⟨hw.1.1.1.next hw.1.2,hw.1.1.2⟩⟩⟩
     · conv=>whnf
       refine⟨?_,rfl⟩
       repeat (first | exact ax.nil | refine ax.any ?_ | refine ax.cons ?_ | refine ax.eq (by rw[wrap_i64 (by omega)];rfl) ?_)
     · conv=>whnf
       exact trivial
   · have hie:i=9:=by
      simp[au,bU] at hlt
      omega
     subst hie
     conv=>whnf
     repeat (refine aa.of ?_;conv=>whnf)
     refine⟨(a,cap,C,P),g,[],⟨by decide,by simp,rfl⟩,?_,ao.of_le ⟨List.Sublist.refl _,fun w hw=>hw.1⟩⟩
     repeat (first | exact ax.nil | refine ax.any ?_ | refine ax.cons ?_)
theorem A0 (h:LA 5 14 w0 av b1):LA 4 13 w0 av b1:=by
 intro a cap C P g
 refine az.bT ae 1 (ι:=Option Addr×Nat×List Value×List (Ln×Hd)) (fun x=>PG 14 x.2.2.2 x.1 x.2.1 x.2.2.1) (fun _=>dM b1) (fun _=>[]) (fun x=>⟨cg x.2.2.2,[]++aA b1 14 x.1 x.2.1 x.2.2.1 ++ []⟩) ?_ ?_
 rotate_left
 · intro x hx bs' hbs'
   obtain rfl:=List.eq_nil_of_length_eq_zero hbs'
   rw[aP]
   exact h x.1 x.2.1 x.2.2.1 x.2.2.2 hx
 · have hl:=g.len
   have hO:=g.own
   rw[hl] at hO
   conv=>whnf
   repeat (refine aa.of ?_;conv=>whnf)
   refine aw.pure (cY 2 (by decide)) (fun w hw=>trivial) (fun v F hv=>?_)
   obtain⟨hh,hho,rfl,rfl⟩:=hv
   conv=>whnf
   repeat (refine aa.of ?_;conv=>whnf)
   refine aw.bJ (F':=⟨fun w=>cg P w∧af w hh.a ((bU 2).map bo),[]++aA b1 13 a cap C ++ []⟩) (ao.of_le ⟨by simp[Fx.and],fun w hw=>hw⟩) ?_
   refine aw.rows (bL b1 13 a cap C _ hO (by decide) 7 1 (Hd.v hh (bU 2).length) (dD _ _)) (fun w hw=>trivial) (fun v F hv=>?_)
   obtain⟨a',c',C',hO',rfl⟩:=hv
   conv=>whnf
   repeat (refine aa.of ?_;conv=>whnf)
   refine⟨(a',c',C',P ++ [(⟨1,1,7,bU 2⟩,hh)]),g.next rfl hho (by rw[hl];exact hO'),[],⟨by decide,by simp,rfl⟩,?_,ao.of_le ⟨by simp,fun w hw=>hw.1.1.next hw.1.2⟩⟩
   repeat (first | exact ax.nil | refine ax.any ?_ | refine ax.cons ?_)
theorem A4 (h:LA 6 17 w0 av b1):LA 5 14 w0 av b1:=by
 intro a cap C P g
 refine az.bT ae 1 (ι:=Option Addr×Nat×List Value×List (Ln×Hd)) (fun x=>PG 17 x.2.2.2 x.1 x.2.1 x.2.2.1) (fun _=>dM b1) (fun _=>[]) (fun x=>⟨cg x.2.2.2,[]++aA b1 17 x.1 x.2.1 x.2.2.1 ++ []⟩) ?_ ?_
 rotate_left
 · intro x hx bs' hbs'
   obtain rfl:=List.eq_nil_of_length_eq_zero hbs'
   rw[aP]
   exact h x.1 x.2.1 x.2.2.1 x.2.2.2 hx
 · conv=>whnf
   repeat (refine aa.of ?_;conv=>whnf)
   refine ar.build ae rfl rfl rfl [.int .i64 8,.int .i64 9,.int .i64 10] rfl rfl (by simp[Value.cells]) (by decide) fun bv=>?_
   conv=>whnf
   repeat (refine aa.of ?_;conv=>whnf)
   obtain⟨hv,hhv⟩ : ∃ hv:Hd,hv=⟨some ⟨bv,0,none⟩,3⟩:=⟨_,rfl⟩
   have hvo:hv.Ok 3:=by rw[hhv];exact bR _ _
   have hva:hv.a=some ⟨bv,0,none⟩:=by rw[hhv]
   obtain⟨L,hL⟩ : ∃ L:List Int,L = [8,9,10]:=⟨_,rfl⟩
   have hE:ao (⟨cg P,([]++aA b1 14 a cap C ++ []) ++ [(bv,Row.c [.int .i64 8,.int .i64 9,.int .i64 10])]⟩:Fx) ⟨fun w=>cg P w∧af w hv.a (L.map bo),[]++aA b1 (14+0) a cap C ++ []⟩:=by rw[hhv,hL];exact ao.a_
   have hLl:L.length=3:=by rw[hL];decide
   have hLn : ∀ i,i<3→bq[14+i]? = some ⟨1,4,L[i]!,[3]⟩:=by rw[hL];decide
   refine az.loop ae (ι:=Nat×Option Addr×Nat×List Value×List (Ln×Hd)) ([7,38]++List.range' 39 7) (fun x=>x.1≤3∧PG (14+x.1) x.2.2.2.2 x.2.1 x.2.2.1 x.2.2.2.1) (fun x=>[(38,.v (.int .i64 (x.1:Int)))]) (fun _=>[])
    (fun x=>⟨fun w=>cg x.2.2.2.2 w∧af w hv.a (L.map bo),[]++aA b1 (14+x.1) x.2.1 x.2.2.1 x.2.2.2.1 ++ []⟩) (fun x=>3 - x.1) (0,a,cap,C,P) ⟨Nat.zero_le _,g⟩ ?_ rfl (ao.trans (ao.of_le ⟨by simp[Value.cells],fun w hw=>hw⟩) hE) fun x hx=>?_
   · conv=>whnf
     repeat (first | exact ax.nil | refine ax.any ?_ | refine ax.cons ?_)
   clear g hE
   obtain⟨i,a,cap,C,P⟩:=x
   obtain⟨hi,g⟩:=hx
   dsimp only at hi g ⊢
   have hl:=g.len
   have hO:=g.own
   rw[hl] at hO
   conv=>whnf
   repeat (refine aa.of ?_;conv=>whnf)
   refine bV.split (fun hlt=>?_) (fun hlt=>?_)
   · have hlt':i<3:=by
      simp[au] at hlt
      omega
     have hx:=hLn i hlt'
     have hLi:L[i]! = L[i]:=by simp[hLl,hlt']
     rw[hLi] at hx
     conv=>whnf
     repeat (refine aa.of ?_;conv=>whnf)
     refine ar.aj (ak.index ae rfl rfl rfl (by omega) (by omega) (fun h=>by cases h) fun ad had=>?_)
     conv=>whnf
     repeat (refine aa.of ?_;conv=>whnf)
     refine ar.aj (ak.load ae rfl rfl (ad:=ad) (k:=i) (L:=L.map bo) (v:=.int .i64 L[i]) (.fact fun w hw=>by rw[← had,← hva];exact hw.2) (by simp) (by rw[List.getElem?_map,List.getElem?_eq_getElem (by omega)];rfl) ?_)
     conv=>whnf
     repeat (refine aa.of ?_;conv=>whnf)
     refine ar.build ae rfl rfl rfl [.int .i64 3] rfl rfl (by simp[Value.cells]) (by decide) fun bh=>?_
     conv=>whnf
     repeat (refine aa.of ?_;conv=>whnf)
     refine aw.bJ (F':=⟨fun w=>(cg P w∧af w hv.a (L.map bo))∧af w (some ⟨bh,0,none⟩) [.int .i64 3],[]++aA b1 (14+i) a cap C ++ []⟩) (ao.trans (ao.of_le (F':=⟨fun w=>cg P w∧af w hv.a (L.map bo),([]++aA b1 (14+i) a cap C ++ []) ++ [(bh,Row.c [.int .i64 3])]⟩) ⟨by simp[Value.cells],fun w hw=>hw⟩) ao.a_) ?_
     refine aw.rows (bL b1 (14+i) a cap C _ hO (by omega) L[i] 4 (Hd.v ⟨some ⟨bh,0,none⟩,1⟩ 1) (dD _ _)) (fun w hw=>trivial) (fun v F hv'=>?_)
     obtain⟨a',c',C',hO',rfl⟩:=hv'
     conv=>whnf
     repeat (refine aa.of ?_;conv=>whnf)
     refine⟨(i+1,a',c',C',P ++ [(⟨1,4,L[i],[3]⟩,⟨some ⟨bh,0,none⟩,1⟩)]),⟨⟨hlt',g.next hx (bR _ _) (by rw[hl];exact hO')⟩,by dsimp only;omega⟩,?_,?_,ao.of_le ⟨by first | exact List.Sublist.refl _ | simp,fun w hw=>⟨hw.1.1.1.next hw.1.2,hw.1.1.2⟩⟩⟩
     · conv=>whnf
       refine⟨?_,rfl⟩
       repeat (first | exact ax.nil | refine ax.any ?_ | refine ax.cons ?_ | refine ax.eq (by rw[wrap_i64 (by omega)];rfl) ?_)
     · conv=>whnf
       exact trivial
   · have hie:i=3:=by
      simp[au] at hlt
      omega
     subst hie
     conv=>whnf
     repeat (refine aa.of ?_;conv=>whnf)
     refine⟨(a,cap,C,P),g,[],⟨by decide,by simp,rfl⟩,?_,ao.of_le ⟨List.Sublist.refl _,fun w hw=>hw.1⟩⟩
     repeat (first | exact ax.nil | refine ax.any ?_ | refine ax.cons ?_)
theorem AT (h:LA 7 18 w0 av b1):LA 6 17 w0 av b1:=by
 intro a cap C P g
 refine az.bT ae 1 (ι:=Option Addr×Nat×List Value×List (Ln×Hd)) (fun x=>PG 18 x.2.2.2 x.1 x.2.1 x.2.2.1) (fun _=>dM b1) (fun _=>[]) (fun x=>⟨cg x.2.2.2,[]++aA b1 18 x.1 x.2.1 x.2.2.1 ++ []⟩) ?_ ?_
 rotate_left
 · intro x hx bs' hbs'
   obtain rfl:=List.eq_nil_of_length_eq_zero hbs'
   rw[aP]
   exact h x.1 x.2.1 x.2.2.1 x.2.2.2 hx
 · have hl:=g.len
   have hO:=g.own
   rw[hl] at hO
   conv=>whnf
   repeat (refine aa.of ?_;conv=>whnf)
   refine ar.build ae rfl rfl rfl [.int .i64 4] rfl rfl (by simp[Value.cells]) (by decide) fun bh=>?_
   conv=>whnf
   repeat (refine aa.of ?_;conv=>whnf)
   refine aw.bJ (F':=⟨fun w=>cg P w∧af w (some ⟨bh,0,none⟩) [.int .i64 4],[]++aA b1 17 a cap C ++ []⟩) (ao.trans (ao.of_le (F':=⟨cg P,([]++aA b1 17 a cap C ++ []) ++ [(bh,Row.c [.int .i64 4])]⟩) ⟨by simp[Value.cells],fun w hw=>hw⟩) ao.a_) ?_
   refine aw.rows (bL b1 17 a cap C _ hO (by decide) 11 3 (Hd.v ⟨some ⟨bh,0,none⟩,1⟩ 1) (dD _ _)) (fun w hw=>trivial) (fun v F hv=>?_)
   obtain⟨a',c',C',hO',rfl⟩:=hv
   conv=>whnf
   repeat (refine aa.of ?_;conv=>whnf)
   refine⟨(a',c',C',P ++ [(⟨1,3,11,[4]⟩,⟨some ⟨bh,0,none⟩,1⟩)]),g.next rfl (bR _ _) (by rw[hl];exact hO'),[],⟨by decide,by simp,rfl⟩,?_,ao.of_le ⟨by simp,fun w hw=>hw.1.1.next hw.1.2⟩⟩
   repeat (first | exact ax.nil | refine ax.any ?_ | refine ax.cons ?_)
theorem A3 (h:LA 8 21 w0 av b1):LA 7 18 w0 av b1:=by
 intro a cap C P g
 refine az.bT ae 1 (ι:=Option Addr×Nat×List Value×List (Ln×Hd)) (fun x=>PG 21 x.2.2.2 x.1 x.2.1 x.2.2.1) (fun _=>dM b1) (fun _=>[]) (fun x=>⟨cg x.2.2.2,[]++aA b1 21 x.1 x.2.1 x.2.2.1 ++ []⟩) ?_ ?_
 rotate_left
 · intro x hx bs' hbs'
   obtain rfl:=List.eq_nil_of_length_eq_zero hbs'
   rw[aP]
   exact h x.1 x.2.1 x.2.2.1 x.2.2.2 hx
 · conv=>whnf
   repeat (refine aa.of ?_;conv=>whnf)
   refine ar.build ae rfl rfl rfl [.int .i64 12,.int .i64 13,.int .i64 14] rfl rfl (by simp[Value.cells]) (by decide) fun bv=>?_
   conv=>whnf
   repeat (refine aa.of ?_;conv=>whnf)
   obtain⟨hv,hhv⟩ : ∃ hv:Hd,hv=⟨some ⟨bv,0,none⟩,3⟩:=⟨_,rfl⟩
   have hvo:hv.Ok 3:=by rw[hhv];exact bR _ _
   have hva:hv.a=some ⟨bv,0,none⟩:=by rw[hhv]
   obtain⟨L,hL⟩ : ∃ L:List Int,L = [12,13,14]:=⟨_,rfl⟩
   have hE:ao (⟨cg P,([]++aA b1 18 a cap C ++ []) ++ [(bv,Row.c [.int .i64 12,.int .i64 13,.int .i64 14])]⟩:Fx) ⟨fun w=>cg P w∧af w hv.a (L.map bo),[]++aA b1 (18+0) a cap C ++ []⟩:=by rw[hhv,hL];exact ao.a_
   have hLl:L.length=3:=by rw[hL];decide
   have hLn : ∀ i,i<3→bq[18+i]? = some ⟨1,5,L[i]!,[3]⟩:=by rw[hL];decide
   refine az.loop ae (ι:=Nat×Option Addr×Nat×List Value×List (Ln×Hd)) ([9,50]++List.range' 51 7) (fun x=>x.1≤3∧PG (18+x.1) x.2.2.2.2 x.2.1 x.2.2.1 x.2.2.2.1) (fun x=>[(50,.v (.int .i64 (x.1:Int)))]) (fun _=>[])
    (fun x=>⟨fun w=>cg x.2.2.2.2 w∧af w hv.a (L.map bo),[]++aA b1 (18+x.1) x.2.1 x.2.2.1 x.2.2.2.1 ++ []⟩) (fun x=>3 - x.1) (0,a,cap,C,P) ⟨Nat.zero_le _,g⟩ ?_ rfl (ao.trans (ao.of_le ⟨by simp[Value.cells],fun w hw=>hw⟩) hE) fun x hx=>?_
   · conv=>whnf
     repeat (first | exact ax.nil | refine ax.any ?_ | refine ax.cons ?_)
   clear g hE
   obtain⟨i,a,cap,C,P⟩:=x
   obtain⟨hi,g⟩:=hx
   dsimp only at hi g ⊢
   have hl:=g.len
   have hO:=g.own
   rw[hl] at hO
   conv=>whnf
   repeat (refine aa.of ?_;conv=>whnf)
   refine bV.split (fun hlt=>?_) (fun hlt=>?_)
   · have hlt':i<3:=by
      simp[au] at hlt
      omega
     have hx:=hLn i hlt'
     have hLi:L[i]! = L[i]:=by simp[hLl,hlt']
     rw[hLi] at hx
     conv=>whnf
     repeat (refine aa.of ?_;conv=>whnf)
     refine ar.aj (ak.index ae rfl rfl rfl (by omega) (by omega) (fun h=>by cases h) fun ad had=>?_)
     conv=>whnf
     repeat (refine aa.of ?_;conv=>whnf)
     refine ar.aj (ak.load ae rfl rfl (ad:=ad) (k:=i) (L:=L.map bo) (v:=.int .i64 L[i]) (.fact fun w hw=>by rw[← had,← hva];exact hw.2) (by simp) (by rw[List.getElem?_map,List.getElem?_eq_getElem (by omega)];rfl) ?_)
     conv=>whnf
     repeat (refine aa.of ?_;conv=>whnf)
     refine ar.build ae rfl rfl rfl [.int .i64 3] rfl rfl (by simp[Value.cells]) (by decide) fun bh=>?_
     conv=>whnf
     repeat (refine aa.of ?_;conv=>whnf)
     refine aw.bJ (F':=⟨fun w=>(cg P w∧af w hv.a (L.map bo))∧af w (some ⟨bh,0,none⟩) [.int .i64 3],[]++aA b1 (18+i) a cap C ++ []⟩) (ao.trans (ao.of_le (F':=⟨fun w=>cg P w∧af w hv.a (L.map bo),([]++aA b1 (18+i) a cap C ++ []) ++ [(bh,Row.c [.int .i64 3])]⟩) ⟨by simp[Value.cells],fun w hw=>hw⟩) ao.a_) ?_
     refine aw.rows (bL b1 (18+i) a cap C _ hO (by omega) L[i] 5 (Hd.v ⟨some ⟨bh,0,none⟩,1⟩ 1) (dD _ _)) (fun w hw=>trivial) (fun v F hv'=>?_)
     obtain⟨a',c',C',hO',rfl⟩:=hv'
     conv=>whnf
     repeat (refine aa.of ?_;conv=>whnf)
     refine⟨(i+1,a',c',C',P ++ [(⟨1,5,L[i],[3]⟩,⟨some ⟨bh,0,none⟩,1⟩)]),⟨⟨hlt',g.next hx (bR _ _) (by rw[hl];exact hO')⟩,by dsimp only;omega⟩,?_,?_,ao.of_le ⟨by first | exact List.Sublist.refl _ | simp,fun w hw=>⟨hw.1.1.1.next hw.1.2,hw.1.1.2⟩⟩⟩
     · conv=>whnf
       refine⟨?_,rfl⟩
       repeat (first | exact ax.nil | refine ax.any ?_ | refine ax.cons ?_ | refine ax.eq (by rw[wrap_i64 (by omega)];rfl) ?_)
     · conv=>whnf
       exact trivial
   · have hie:i=3:=by
      simp[au] at hlt
      omega
     subst hie
     conv=>whnf
     repeat (refine aa.of ?_;conv=>whnf)
     refine⟨(a,cap,C,P),g,[],⟨by decide,by simp,rfl⟩,?_,ao.of_le ⟨List.Sublist.refl _,fun w hw=>hw.1⟩⟩
     repeat (first | exact ax.nil | refine ax.any ?_ | refine ax.cons ?_)
theorem AS (h:LA 9 22 w0 av b1):LA 8 21 w0 av b1:=by
 intro a cap C P g
 refine az.bT ae 1 (ι:=Option Addr×Nat×List Value×List (Ln×Hd)) (fun x=>PG 22 x.2.2.2 x.1 x.2.1 x.2.2.1) (fun _=>dM b1) (fun _=>[]) (fun x=>⟨cg x.2.2.2,[]++aA b1 22 x.1 x.2.1 x.2.2.1 ++ []⟩) ?_ ?_
 rotate_left
 · intro x hx bs' hbs'
   obtain rfl:=List.eq_nil_of_length_eq_zero hbs'
   rw[aP]
   exact h x.1 x.2.1 x.2.2.1 x.2.2.2 hx
 · have hl:=g.len
   have hO:=g.own
   rw[hl] at hO
   conv=>whnf
   repeat (refine aa.of ?_;conv=>whnf)
   refine ar.build ae rfl rfl rfl [.int .i64 5] rfl rfl (by simp[Value.cells]) (by decide) fun bh=>?_
   conv=>whnf
   repeat (refine aa.of ?_;conv=>whnf)
   refine aw.bJ (F':=⟨fun w=>cg P w∧af w (some ⟨bh,0,none⟩) [.int .i64 5],[]++aA b1 21 a cap C ++ []⟩) (ao.trans (ao.of_le (F':=⟨cg P,([]++aA b1 21 a cap C ++ []) ++ [(bh,Row.c [.int .i64 5])]⟩) ⟨by simp[Value.cells],fun w hw=>hw⟩) ao.a_) ?_
   refine aw.rows (bL b1 21 a cap C _ hO (by decide) 15 3 (Hd.v ⟨some ⟨bh,0,none⟩,1⟩ 1) (dD _ _)) (fun w hw=>trivial) (fun v F hv=>?_)
   obtain⟨a',c',C',hO',rfl⟩:=hv
   conv=>whnf
   repeat (refine aa.of ?_;conv=>whnf)
   refine⟨(a',c',C',P ++ [(⟨1,3,15,[5]⟩,⟨some ⟨bh,0,none⟩,1⟩)]),g.next rfl (bR _ _) (by rw[hl];exact hO'),[],⟨by decide,by simp,rfl⟩,?_,ao.of_le ⟨by simp,fun w hw=>hw.1.1.next hw.1.2⟩⟩
   repeat (first | exact ax.nil | refine ax.any ?_ | refine ax.cons ?_)
theorem A2 (h:LA 10 23 w0 av b1):LA 9 22 w0 av b1:=by
 intro a cap C P g
 refine az.bT ae 1 (ι:=Option Addr×Nat×List Value×List (Ln×Hd)) (fun x=>PG 23 x.2.2.2 x.1 x.2.1 x.2.2.1) (fun _=>dM b1) (fun _=>[]) (fun x=>⟨cg x.2.2.2,[]++aA b1 23 x.1 x.2.1 x.2.2.1 ++ []⟩) ?_ ?_
 rotate_left
 · intro x hx bs' hbs'
   obtain rfl:=List.eq_nil_of_length_eq_zero hbs'
   rw[aP]
   exact h x.1 x.2.1 x.2.2.1 x.2.2.2 hx
 · have hl:=g.len
   have hO:=g.own
   rw[hl] at hO
   conv=>whnf
   repeat (refine aa.of ?_;conv=>whnf)
   refine ar.build ae rfl rfl rfl [.int .i64 3] rfl rfl (by simp[Value.cells]) (by decide) fun bh=>?_
   conv=>whnf
   repeat (refine aa.of ?_;conv=>whnf)
   refine aw.bJ (F':=⟨fun w=>cg P w∧af w (some ⟨bh,0,none⟩) [.int .i64 3],[]++aA b1 22 a cap C ++ []⟩) (ao.trans (ao.of_le (F':=⟨cg P,([]++aA b1 22 a cap C ++ []) ++ [(bh,Row.c [.int .i64 3])]⟩) ⟨by simp[Value.cells],fun w hw=>hw⟩) ao.a_) ?_
   refine aw.rows (bL b1 22 a cap C _ hO (by decide) 16 10 (Hd.v ⟨some ⟨bh,0,none⟩,1⟩ 1) (dD _ _)) (fun w hw=>trivial) (fun v F hv=>?_)
   obtain⟨a',c',C',hO',rfl⟩:=hv
   conv=>whnf
   repeat (refine aa.of ?_;conv=>whnf)
   refine⟨(a',c',C',P ++ [(⟨1,10,16,[3]⟩,⟨some ⟨bh,0,none⟩,1⟩)]),g.next rfl (bR _ _) (by rw[hl];exact hO'),[],⟨by decide,by simp,rfl⟩,?_,ao.of_le ⟨by simp,fun w hw=>hw.1.1.next hw.1.2⟩⟩
   repeat (first | exact ax.nil | refine ax.any ?_ | refine ax.cons ?_)
theorem zZ (h:LA 11 24 w0 av b1):LA 10 23 w0 av b1:=by
 intro a cap C P g
 refine az.bT ae 1 (ι:=Option Addr×Nat×List Value×List (Ln×Hd)) (fun x=>PG 24 x.2.2.2 x.1 x.2.1 x.2.2.1) (fun _=>dM b1) (fun _=>[]) (fun x=>⟨cg x.2.2.2,[]++aA b1 24 x.1 x.2.1 x.2.2.1 ++ []⟩) ?_ ?_
 rotate_left
 · intro x hx bs' hbs'
   obtain rfl:=List.eq_nil_of_length_eq_zero hbs'
   rw[aP]
   exact h x.1 x.2.1 x.2.2.1 x.2.2.2 hx
 · have hl:=g.len
   have hO:=g.own
   rw[hl] at hO
   conv=>whnf
   repeat (refine aa.of ?_;conv=>whnf)
   refine ar.build ae rfl rfl rfl [.int .i64 10] rfl rfl (by simp[Value.cells]) (by decide) fun bh=>?_
   conv=>whnf
   repeat (refine aa.of ?_;conv=>whnf)
   refine aw.bJ (F':=⟨fun w=>cg P w∧af w (some ⟨bh,0,none⟩) [.int .i64 10],[]++aA b1 23 a cap C ++ []⟩) (ao.trans (ao.of_le (F':=⟨cg P,([]++aA b1 23 a cap C ++ []) ++ [(bh,Row.c [.int .i64 10])]⟩) ⟨by simp[Value.cells],fun w hw=>hw⟩) ao.a_) ?_
   refine aw.rows (bL b1 23 a cap C _ hO (by decide) 17 3 (Hd.v ⟨some ⟨bh,0,none⟩,1⟩ 1) (dD _ _)) (fun w hw=>trivial) (fun v F hv=>?_)
   obtain⟨a',c',C',hO',rfl⟩:=hv
   conv=>whnf
   repeat (refine aa.of ?_;conv=>whnf)
   refine⟨(a',c',C',P ++ [(⟨1,3,17,[10]⟩,⟨some ⟨bh,0,none⟩,1⟩)]),g.next rfl (bR _ _) (by rw[hl];exact hO'),[],⟨by decide,by simp,rfl⟩,?_,ao.of_le ⟨by simp,fun w hw=>hw.1.1.next hw.1.2⟩⟩
   repeat (first | exact ax.nil | refine ax.any ?_ | refine ax.cons ?_)
theorem Ab (h:LA 12 25 w0 av b1):LA 11 24 w0 av b1:=by
 intro a cap C P g
 refine az.bT ae 1 (ι:=Option Addr×Nat×List Value×List (Ln×Hd)) (fun x=>PG 25 x.2.2.2 x.1 x.2.1 x.2.2.1) (fun _=>dM b1) (fun _=>[]) (fun x=>⟨cg x.2.2.2,[]++aA b1 25 x.1 x.2.1 x.2.2.1 ++ []⟩) ?_ ?_
 rotate_left
 · intro x hx bs' hbs'
   obtain rfl:=List.eq_nil_of_length_eq_zero hbs'
   rw[aP]
   exact h x.1 x.2.1 x.2.2.1 x.2.2.2 hx
 · have hl:=g.len
   have hO:=g.own
   rw[hl] at hO
   conv=>whnf
   repeat (refine aa.of ?_;conv=>whnf)
   refine ar.build ae rfl rfl rfl [.int .i64 5] rfl rfl (by simp[Value.cells]) (by decide) fun bh=>?_
   conv=>whnf
   repeat (refine aa.of ?_;conv=>whnf)
   refine aw.bJ (F':=⟨fun w=>cg P w∧af w (some ⟨bh,0,none⟩) [.int .i64 5],[]++aA b1 24 a cap C ++ []⟩) (ao.trans (ao.of_le (F':=⟨cg P,([]++aA b1 24 a cap C ++ []) ++ [(bh,Row.c [.int .i64 5])]⟩) ⟨by simp[Value.cells],fun w hw=>hw⟩) ao.a_) ?_
   refine aw.rows (bL b1 24 a cap C _ hO (by decide) 18 6 (Hd.v ⟨some ⟨bh,0,none⟩,1⟩ 1) (dD _ _)) (fun w hw=>trivial) (fun v F hv=>?_)
   obtain⟨a',c',C',hO',rfl⟩:=hv
   conv=>whnf
   repeat (refine aa.of ?_;conv=>whnf)
   refine⟨(a',c',C',P ++ [(⟨1,6,18,[5]⟩,⟨some ⟨bh,0,none⟩,1⟩)]),g.next rfl (bR _ _) (by rw[hl];exact hO'),[],⟨by decide,by simp,rfl⟩,?_,ao.of_le ⟨by simp,fun w hw=>hw.1.1.next hw.1.2⟩⟩
   repeat (first | exact ax.nil | refine ax.any ?_ | refine ax.cons ?_)
theorem Ac (h:LA 13 26 w0 av b1):LA 12 25 w0 av b1:=by
 intro a cap C P g
 refine az.bT ae 1 (ι:=Option Addr×Nat×List Value×List (Ln×Hd)) (fun x=>PG 26 x.2.2.2 x.1 x.2.1 x.2.2.1) (fun _=>dM b1) (fun _=>[]) (fun x=>⟨cg x.2.2.2,[]++aA b1 26 x.1 x.2.1 x.2.2.1 ++ []⟩) ?_ ?_
 rotate_left
 · intro x hx bs' hbs'
   obtain rfl:=List.eq_nil_of_length_eq_zero hbs'
   rw[aP]
   exact h x.1 x.2.1 x.2.2.1 x.2.2.2 hx
 · have hl:=g.len
   have hO:=g.own
   rw[hl] at hO
   conv=>whnf
   repeat (refine aa.of ?_;conv=>whnf)
   refine ar.build ae rfl rfl rfl [.int .i64 6] rfl rfl (by simp[Value.cells]) (by decide) fun bh=>?_
   conv=>whnf
   repeat (refine aa.of ?_;conv=>whnf)
   refine aw.bJ (F':=⟨fun w=>cg P w∧af w (some ⟨bh,0,none⟩) [.int .i64 6],[]++aA b1 25 a cap C ++ []⟩) (ao.trans (ao.of_le (F':=⟨cg P,([]++aA b1 25 a cap C ++ []) ++ [(bh,Row.c [.int .i64 6])]⟩) ⟨by simp[Value.cells],fun w hw=>hw⟩) ao.a_) ?_
   refine aw.rows (bL b1 25 a cap C _ hO (by decide) 19 5 (Hd.v ⟨some ⟨bh,0,none⟩,1⟩ 1) (dD _ _)) (fun w hw=>trivial) (fun v F hv=>?_)
   obtain⟨a',c',C',hO',rfl⟩:=hv
   conv=>whnf
   repeat (refine aa.of ?_;conv=>whnf)
   refine⟨(a',c',C',P ++ [(⟨1,5,19,[6]⟩,⟨some ⟨bh,0,none⟩,1⟩)]),g.next rfl (bR _ _) (by rw[hl];exact hO'),[],⟨by decide,by simp,rfl⟩,?_,ao.of_le ⟨by simp,fun w hw=>hw.1.1.next hw.1.2⟩⟩
   repeat (first | exact ax.nil | refine ax.any ?_ | refine ax.cons ?_)
theorem zX (h:LA 14 27 w0 av b1):LA 13 26 w0 av b1:=by
 intro a cap C P g
 refine az.bT ae 1 (ι:=Option Addr×Nat×List Value×List (Ln×Hd)) (fun x=>PG 27 x.2.2.2 x.1 x.2.1 x.2.2.1) (fun _=>dM b1) (fun _=>[]) (fun x=>⟨cg x.2.2.2,[]++aA b1 27 x.1 x.2.1 x.2.2.1 ++ []⟩) ?_ ?_
 rotate_left
 · intro x hx bs' hbs'
   obtain rfl:=List.eq_nil_of_length_eq_zero hbs'
   rw[aP]
   exact h x.1 x.2.1 x.2.2.1 x.2.2.2 hx
 · have hl:=g.len
   have hO:=g.own
   rw[hl] at hO
   conv=>whnf
   repeat (refine aa.of ?_;conv=>whnf)
   refine ar.build ae rfl rfl rfl [.int .i64 4,.int .i64 6] rfl rfl (by simp[Value.cells]) (by decide) fun bh=>?_
   conv=>whnf
   repeat (refine aa.of ?_;conv=>whnf)
   refine aw.bJ (F':=⟨fun w=>cg P w∧af w (some ⟨bh,0,none⟩) [.int .i64 4,.int .i64 6],[]++aA b1 26 a cap C ++ []⟩) (ao.trans (ao.of_le (F':=⟨cg P,([]++aA b1 26 a cap C ++ []) ++ [(bh,Row.c [.int .i64 4,.int .i64 6])]⟩) ⟨by simp[Value.cells],fun w hw=>hw⟩) ao.a_) ?_
   refine aw.rows (bL b1 26 a cap C _ hO (by decide) 20 7 (Hd.v ⟨some ⟨bh,0,none⟩,2⟩ 2) (dD _ _)) (fun w hw=>trivial) (fun v F hv=>?_)
   obtain⟨a',c',C',hO',rfl⟩:=hv
   conv=>whnf
   repeat (refine aa.of ?_;conv=>whnf)
   refine⟨(a',c',C',P ++ [(⟨1,7,20,[4,6]⟩,⟨some ⟨bh,0,none⟩,2⟩)]),g.next rfl (bR _ _) (by rw[hl];exact hO'),[],⟨by decide,by simp,rfl⟩,?_,ao.of_le ⟨by simp,fun w hw=>hw.1.1.next hw.1.2⟩⟩
   repeat (first | exact ax.nil | refine ax.any ?_ | refine ax.cons ?_)
theorem Af (h:LA 15 28 w0 av b1):LA 14 27 w0 av b1:=by
 intro a cap C P g
 refine az.bT ae 1 (ι:=Option Addr×Nat×List Value×List (Ln×Hd)) (fun x=>PG 28 x.2.2.2 x.1 x.2.1 x.2.2.1) (fun _=>dM b1) (fun _=>[]) (fun x=>⟨cg x.2.2.2,[]++aA b1 28 x.1 x.2.1 x.2.2.1 ++ []⟩) ?_ ?_
 rotate_left
 · intro x hx bs' hbs'
   obtain rfl:=List.eq_nil_of_length_eq_zero hbs'
   rw[aP]
   exact h x.1 x.2.1 x.2.2.1 x.2.2.2 hx
 · have hl:=g.len
   have hO:=g.own
   rw[hl] at hO
   conv=>whnf
   repeat (refine aa.of ?_;conv=>whnf)
   refine ar.build ae rfl rfl rfl [.int .i64 7] rfl rfl (by simp[Value.cells]) (by decide) fun bh=>?_
   conv=>whnf
   repeat (refine aa.of ?_;conv=>whnf)
   refine aw.bJ (F':=⟨fun w=>cg P w∧af w (some ⟨bh,0,none⟩) [.int .i64 7],[]++aA b1 27 a cap C ++ []⟩) (ao.trans (ao.of_le (F':=⟨cg P,([]++aA b1 27 a cap C ++ []) ++ [(bh,Row.c [.int .i64 7])]⟩) ⟨by simp[Value.cells],fun w hw=>hw⟩) ao.a_) ?_
   refine aw.rows (bL b1 27 a cap C _ hO (by decide) 21 4 (Hd.v ⟨some ⟨bh,0,none⟩,1⟩ 1) (dD _ _)) (fun w hw=>trivial) (fun v F hv=>?_)
   obtain⟨a',c',C',hO',rfl⟩:=hv
   conv=>whnf
   repeat (refine aa.of ?_;conv=>whnf)
   refine⟨(a',c',C',P ++ [(⟨1,4,21,[7]⟩,⟨some ⟨bh,0,none⟩,1⟩)]),g.next rfl (bR _ _) (by rw[hl];exact hO'),[],⟨by decide,by simp,rfl⟩,?_,ao.of_le ⟨by simp,fun w hw=>hw.1.1.next hw.1.2⟩⟩
   repeat (first | exact ax.nil | refine ax.any ?_ | refine ax.cons ?_)
theorem Ar (h:LA 16 29 w0 av b1):LA 15 28 w0 av b1:=by
 intro a cap C P g
 refine az.bT ae 1 (ι:=Option Addr×Nat×List Value×List (Ln×Hd)) (fun x=>PG 29 x.2.2.2 x.1 x.2.1 x.2.2.1) (fun _=>dM b1) (fun _=>[]) (fun x=>⟨cg x.2.2.2,[]++aA b1 29 x.1 x.2.1 x.2.2.1 ++ []⟩) ?_ ?_
 rotate_left
 · intro x hx bs' hbs'
   obtain rfl:=List.eq_nil_of_length_eq_zero hbs'
   rw[aP]
   exact h x.1 x.2.1 x.2.2.1 x.2.2.2 hx
 · have hl:=g.len
   have hO:=g.own
   rw[hl] at hO
   conv=>whnf
   repeat (refine aa.of ?_;conv=>whnf)
   refine ar.build ae rfl rfl rfl [.int .i64 7] rfl rfl (by simp[Value.cells]) (by decide) fun bh=>?_
   conv=>whnf
   repeat (refine aa.of ?_;conv=>whnf)
   refine aw.bJ (F':=⟨fun w=>cg P w∧af w (some ⟨bh,0,none⟩) [.int .i64 7],[]++aA b1 28 a cap C ++ []⟩) (ao.trans (ao.of_le (F':=⟨cg P,([]++aA b1 28 a cap C ++ []) ++ [(bh,Row.c [.int .i64 7])]⟩) ⟨by simp[Value.cells],fun w hw=>hw⟩) ao.a_) ?_
   refine aw.rows (bL b1 28 a cap C _ hO (by decide) 21 6 (Hd.v ⟨some ⟨bh,0,none⟩,1⟩ 1) (dD _ _)) (fun w hw=>trivial) (fun v F hv=>?_)
   obtain⟨a',c',C',hO',rfl⟩:=hv
   conv=>whnf
   repeat (refine aa.of ?_;conv=>whnf)
   refine⟨(a',c',C',P ++ [(⟨1,6,21,[7]⟩,⟨some ⟨bh,0,none⟩,1⟩)]),g.next rfl (bR _ _) (by rw[hl];exact hO'),[],⟨by decide,by simp,rfl⟩,?_,ao.of_le ⟨by simp,fun w hw=>hw.1.1.next hw.1.2⟩⟩
   repeat (first | exact ax.nil | refine ax.any ?_ | refine ax.cons ?_)
theorem zW (h:LA 17 30 w0 av b1):LA 16 29 w0 av b1:=by
 intro a cap C P g
 refine az.bT ae 1 (ι:=Option Addr×Nat×List Value×List (Ln×Hd)) (fun x=>PG 30 x.2.2.2 x.1 x.2.1 x.2.2.1) (fun _=>dM b1) (fun _=>[]) (fun x=>⟨cg x.2.2.2,[]++aA b1 30 x.1 x.2.1 x.2.2.1 ++ []⟩) ?_ ?_
 rotate_left
 · intro x hx bs' hbs'
   obtain rfl:=List.eq_nil_of_length_eq_zero hbs'
   rw[aP]
   exact h x.1 x.2.1 x.2.2.1 x.2.2.2 hx
 · have hl:=g.len
   have hO:=g.own
   rw[hl] at hO
   conv=>whnf
   repeat (refine aa.of ?_;conv=>whnf)
   refine ar.build ae rfl rfl rfl [.int .i64 5] rfl rfl (by simp[Value.cells]) (by decide) fun bh=>?_
   conv=>whnf
   repeat (refine aa.of ?_;conv=>whnf)
   refine aw.bJ (F':=⟨fun w=>cg P w∧af w (some ⟨bh,0,none⟩) [.int .i64 5],[]++aA b1 29 a cap C ++ []⟩) (ao.trans (ao.of_le (F':=⟨cg P,([]++aA b1 29 a cap C ++ []) ++ [(bh,Row.c [.int .i64 5])]⟩) ⟨by simp[Value.cells],fun w hw=>hw⟩) ao.a_) ?_
   refine aw.rows (bL b1 29 a cap C _ hO (by decide) 22 9 (Hd.v ⟨some ⟨bh,0,none⟩,1⟩ 1) (dD _ _)) (fun w hw=>trivial) (fun v F hv=>?_)
   obtain⟨a',c',C',hO',rfl⟩:=hv
   conv=>whnf
   repeat (refine aa.of ?_;conv=>whnf)
   refine⟨(a',c',C',P ++ [(⟨1,9,22,[5]⟩,⟨some ⟨bh,0,none⟩,1⟩)]),g.next rfl (bR _ _) (by rw[hl];exact hO'),[],⟨by decide,by simp,rfl⟩,?_,ao.of_le ⟨by simp,fun w hw=>hw.1.1.next hw.1.2⟩⟩
   repeat (first | exact ax.nil | refine ax.any ?_ | refine ax.cons ?_)
theorem Aa (h:LA 18 31 w0 av b1):LA 17 30 w0 av b1:=by
 intro a cap C P g
 refine az.bT ae 1 (ι:=Option Addr×Nat×List Value×List (Ln×Hd)) (fun x=>PG 31 x.2.2.2 x.1 x.2.1 x.2.2.1) (fun _=>dM b1) (fun _=>[]) (fun x=>⟨cg x.2.2.2,[]++aA b1 31 x.1 x.2.1 x.2.2.1 ++ []⟩) ?_ ?_
 rotate_left
 · intro x hx bs' hbs'
   obtain rfl:=List.eq_nil_of_length_eq_zero hbs'
   rw[aP]
   exact h x.1 x.2.1 x.2.2.1 x.2.2.2 hx
 · have hl:=g.len
   have hO:=g.own
   rw[hl] at hO
   conv=>whnf
   repeat (refine aa.of ?_;conv=>whnf)
   refine ar.build ae rfl rfl rfl [.int .i64 9] rfl rfl (by simp[Value.cells]) (by decide) fun bh=>?_
   conv=>whnf
   repeat (refine aa.of ?_;conv=>whnf)
   refine aw.bJ (F':=⟨fun w=>cg P w∧af w (some ⟨bh,0,none⟩) [.int .i64 9],[]++aA b1 30 a cap C ++ []⟩) (ao.trans (ao.of_le (F':=⟨cg P,([]++aA b1 30 a cap C ++ []) ++ [(bh,Row.c [.int .i64 9])]⟩) ⟨by simp[Value.cells],fun w hw=>hw⟩) ao.a_) ?_
   refine aw.rows (bL b1 30 a cap C _ hO (by decide) 23 5 (Hd.v ⟨some ⟨bh,0,none⟩,1⟩ 1) (dD _ _)) (fun w hw=>trivial) (fun v F hv=>?_)
   obtain⟨a',c',C',hO',rfl⟩:=hv
   conv=>whnf
   repeat (refine aa.of ?_;conv=>whnf)
   refine⟨(a',c',C',P ++ [(⟨1,5,23,[9]⟩,⟨some ⟨bh,0,none⟩,1⟩)]),g.next rfl (bR _ _) (by rw[hl];exact hO'),[],⟨by decide,by simp,rfl⟩,?_,ao.of_le ⟨by simp,fun w hw=>hw.1.1.next hw.1.2⟩⟩
   repeat (first | exact ax.nil | refine ax.any ?_ | refine ax.cons ?_)
theorem AD (h:LA 19 32 w0 av b1):LA 18 31 w0 av b1:=by
 intro a cap C P g
 refine az.bT ae 1 (ι:=Option Addr×Nat×List Value×List (Ln×Hd)) (fun x=>PG 32 x.2.2.2 x.1 x.2.1 x.2.2.1) (fun _=>dM b1) (fun _=>[]) (fun x=>⟨cg x.2.2.2,[]++aA b1 32 x.1 x.2.1 x.2.2.1 ++ []⟩) ?_ ?_
 rotate_left
 · intro x hx bs' hbs'
   obtain rfl:=List.eq_nil_of_length_eq_zero hbs'
   rw[aP]
   exact h x.1 x.2.1 x.2.2.1 x.2.2.2 hx
 · have hl:=g.len
   have hO:=g.own
   rw[hl] at hO
   conv=>whnf
   repeat (refine aa.of ?_;conv=>whnf)
   refine ar.build ae rfl rfl rfl [.int .i64 5] rfl rfl (by simp[Value.cells]) (by decide) fun bh=>?_
   conv=>whnf
   repeat (refine aa.of ?_;conv=>whnf)
   refine aw.bJ (F':=⟨fun w=>cg P w∧af w (some ⟨bh,0,none⟩) [.int .i64 5],[]++aA b1 31 a cap C ++ []⟩) (ao.trans (ao.of_le (F':=⟨cg P,([]++aA b1 31 a cap C ++ []) ++ [(bh,Row.c [.int .i64 5])]⟩) ⟨by simp[Value.cells],fun w hw=>hw⟩) ao.a_) ?_
   refine aw.rows (bL b1 31 a cap C _ hO (by decide) 24 8 (Hd.v ⟨some ⟨bh,0,none⟩,1⟩ 1) (dD _ _)) (fun w hw=>trivial) (fun v F hv=>?_)
   obtain⟨a',c',C',hO',rfl⟩:=hv
   conv=>whnf
   repeat (refine aa.of ?_;conv=>whnf)
   refine⟨(a',c',C',P ++ [(⟨1,8,24,[5]⟩,⟨some ⟨bh,0,none⟩,1⟩)]),g.next rfl (bR _ _) (by rw[hl];exact hO'),[],⟨by decide,by simp,rfl⟩,?_,ao.of_le ⟨by simp,fun w hw=>hw.1.1.next hw.1.2⟩⟩
   repeat (first | exact ax.nil | refine ax.any ?_ | refine ax.cons ?_)
theorem Ag (h:LA 20 33 w0 av b1):LA 19 32 w0 av b1:=by
 intro a cap C P g
 refine az.bT ae 1 (ι:=Option Addr×Nat×List Value×List (Ln×Hd)) (fun x=>PG 33 x.2.2.2 x.1 x.2.1 x.2.2.1) (fun _=>dM b1) (fun _=>[]) (fun x=>⟨cg x.2.2.2,[]++aA b1 33 x.1 x.2.1 x.2.2.1 ++ []⟩) ?_ ?_
 rotate_left
 · intro x hx bs' hbs'
   obtain rfl:=List.eq_nil_of_length_eq_zero hbs'
   rw[aP]
   exact h x.1 x.2.1 x.2.2.1 x.2.2.2 hx
 · have hl:=g.len
   have hO:=g.own
   rw[hl] at hO
   conv=>whnf
   repeat (refine aa.of ?_;conv=>whnf)
   refine ar.build ae rfl rfl rfl [.int .i64 8] rfl rfl (by simp[Value.cells]) (by decide) fun bh=>?_
   conv=>whnf
   repeat (refine aa.of ?_;conv=>whnf)
   refine aw.bJ (F':=⟨fun w=>cg P w∧af w (some ⟨bh,0,none⟩) [.int .i64 8],[]++aA b1 32 a cap C ++ []⟩) (ao.trans (ao.of_le (F':=⟨cg P,([]++aA b1 32 a cap C ++ []) ++ [(bh,Row.c [.int .i64 8])]⟩) ⟨by simp[Value.cells],fun w hw=>hw⟩) ao.a_) ?_
   refine aw.rows (bL b1 32 a cap C _ hO (by decide) 25 5 (Hd.v ⟨some ⟨bh,0,none⟩,1⟩ 1) (dD _ _)) (fun w hw=>trivial) (fun v F hv=>?_)
   obtain⟨a',c',C',hO',rfl⟩:=hv
   conv=>whnf
   repeat (refine aa.of ?_;conv=>whnf)
   refine⟨(a',c',C',P ++ [(⟨1,5,25,[8]⟩,⟨some ⟨bh,0,none⟩,1⟩)]),g.next rfl (bR _ _) (by rw[hl];exact hO'),[],⟨by decide,by simp,rfl⟩,?_,ao.of_le ⟨by simp,fun w hw=>hw.1.1.next hw.1.2⟩⟩
   repeat (first | exact ax.nil | refine ax.any ?_ | refine ax.cons ?_)
theorem AK (h:LA 21 34 w0 av b1):LA 20 33 w0 av b1:=by
 intro a cap C P g
 refine az.bT ae 1 (ι:=Option Addr×Nat×List Value×List (Ln×Hd)) (fun x=>PG 34 x.2.2.2 x.1 x.2.1 x.2.2.1) (fun _=>dM b1) (fun _=>[]) (fun x=>⟨cg x.2.2.2,[]++aA b1 34 x.1 x.2.1 x.2.2.1 ++ []⟩) ?_ ?_
 rotate_left
 · intro x hx bs' hbs'
   obtain rfl:=List.eq_nil_of_length_eq_zero hbs'
   rw[aP]
   exact h x.1 x.2.1 x.2.2.1 x.2.2.2 hx
 · have hl:=g.len
   have hO:=g.own
   rw[hl] at hO
   conv=>whnf
   repeat (refine aa.of ?_;conv=>whnf)
   refine aw.pure (cY 1 (by decide)) (fun w hw=>trivial) (fun v F hv=>?_)
   obtain⟨hh,hho,rfl,rfl⟩:=hv
   conv=>whnf
   repeat (refine aa.of ?_;conv=>whnf)
   refine aw.bJ (F':=⟨fun w=>cg P w∧af w hh.a ((bU 1).map bo),[]++aA b1 33 a cap C ++ []⟩) (ao.of_le ⟨by simp[Fx.and],fun w hw=>hw⟩) ?_
   refine aw.rows (bL b1 33 a cap C _ hO (by decide) 26 2 (Hd.v hh (bU 1).length) (dD _ _)) (fun w hw=>trivial) (fun v F hv=>?_)
   obtain⟨a',c',C',hO',rfl⟩:=hv
   conv=>whnf
   repeat (refine aa.of ?_;conv=>whnf)
   refine⟨(a',c',C',P ++ [(⟨1,2,26,bU 1⟩,hh)]),g.next rfl hho (by rw[hl];exact hO'),[],⟨by decide,by simp,rfl⟩,?_,ao.of_le ⟨by simp,fun w hw=>hw.1.1.next hw.1.2⟩⟩
   repeat (first | exact ax.nil | refine ax.any ?_ | refine ax.cons ?_)
theorem zY (h:LA 22 44 w0 av b1):LA 21 34 w0 av b1:=by
 intro a cap C P g
 refine az.bT ae 1 (ι:=Option Addr×Nat×List Value×List (Ln×Hd)) (fun x=>PG 44 x.2.2.2 x.1 x.2.1 x.2.2.1) (fun _=>dM b1) (fun _=>[]) (fun x=>⟨cg x.2.2.2,[]++aA b1 44 x.1 x.2.1 x.2.2.1 ++ []⟩) ?_ ?_
 rotate_left
 · intro x hx bs' hbs'
   obtain rfl:=List.eq_nil_of_length_eq_zero hbs'
   rw[aP]
   exact h x.1 x.2.1 x.2.2.1 x.2.2.2 hx
 · conv=>whnf
   repeat (refine aa.of ?_;conv=>whnf)
   refine aw.pure (cY 1 (by decide)) (fun w hw=>trivial) (fun v F hv=>?_)
   obtain⟨hv,hvo,rfl,rfl⟩:=hv
   conv=>whnf
   repeat (refine aa.of ?_;conv=>whnf)
   obtain⟨L,hL⟩ : ∃ L:List Int,L=bU 1:=⟨_,rfl⟩
   have hE:ao (⟨fun w=>cg P w∧af w hv.a ((bU 1).map bo),[]++aA b1 34 a cap C ++ []⟩:Fx) ⟨fun w=>cg P w∧af w hv.a (L.map bo),[]++aA b1 (34+0) a cap C ++ []⟩:=by rw[hL];exact ao.refl _
   have hLl:L.length=10:=by rw[hL];decide
   have hLn : ∀ i,i<10→bq[34+i]? = some ⟨1,L[i]!,27,[2]⟩:=by rw[hL];decide
   refine az.loop ae (ι:=Nat×Option Addr×Nat×List Value×List (Ln×Hd)) ([11,86]++List.range' 87 7) (fun x=>x.1≤10∧PG (34+x.1) x.2.2.2.2 x.2.1 x.2.2.1 x.2.2.2.1) (fun x=>[(86,.v (.int .i64 (x.1:Int)))]) (fun _=>[])
    (fun x=>⟨fun w=>cg x.2.2.2.2 w∧af w hv.a (L.map bo),[]++aA b1 (34+x.1) x.2.1 x.2.2.1 x.2.2.2.1 ++ []⟩) (fun x=>10 - x.1) (0,a,cap,C,P) ⟨Nat.zero_le _,g⟩ ?_ rfl (ao.trans (ao.of_le (F':=⟨fun w=>cg P w∧af w hv.a ((bU 1).map bo),[]++aA b1 34 a cap C ++ []⟩) ⟨by simp[Fx.and],fun w hw=>hw⟩) hE) fun x hx=>?_
   · conv=>whnf
     repeat (first | exact ax.nil | refine ax.any ?_ | refine ax.cons ?_)
   clear g hE
   obtain⟨i,a,cap,C,P⟩:=x
   obtain⟨hi,g⟩:=hx
   dsimp only at hi g ⊢
   have hl:=g.len
   have hO:=g.own
   rw[hl] at hO
   conv=>whnf
   repeat (refine aa.of ?_;conv=>whnf)
   refine bV.split (fun hlt=>?_) (fun hlt=>?_)
   · have hlt':i<10:=by
      simp[au,bU] at hlt
      omega
     have hx:=hLn i hlt'
     have hLi:L[i]! = L[i]:=by simp[hLl,hlt']
     rw[hLi] at hx
     conv=>whnf
     repeat (refine aa.of ?_;conv=>whnf)
     refine ar.aj (ak.index ae rfl rfl rfl (by omega) (by show(i:Int)<(((bU 1).length:Nat):Int);rw[← hL,hLl];omega) hvo.nil fun ad had=>?_)
     conv=>whnf
     repeat (refine aa.of ?_;conv=>whnf)
     refine ar.aj (ak.load ae rfl rfl (ad:=ad) (k:=i) (L:=L.map bo) (v:=.int .i64 L[i]) (.fact fun w hw=>had ▸ hw.2) (by simp) (by rw[List.getElem?_map,List.getElem?_eq_getElem (by omega)];rfl) ?_)
     conv=>whnf
     repeat (refine aa.of ?_;conv=>whnf)
     refine ar.build ae rfl rfl rfl [.int .i64 2] rfl rfl (by simp[Value.cells]) (by decide) fun bh=>?_
     conv=>whnf
     repeat (refine aa.of ?_;conv=>whnf)
     refine aw.bJ (F':=⟨fun w=>(cg P w∧af w hv.a (L.map bo))∧af w (some ⟨bh,0,none⟩) [.int .i64 2],[]++aA b1 (34+i) a cap C ++ []⟩) (ao.trans (ao.of_le (F':=⟨fun w=>cg P w∧af w hv.a (L.map bo),([]++aA b1 (34+i) a cap C ++ []) ++ [(bh,Row.c [.int .i64 2])]⟩) ⟨by simp[Value.cells],fun w hw=>hw⟩) ao.a_) ?_
     refine aw.rows (bL b1 (34+i) a cap C _ hO (by omega) 27 L[i] (Hd.v ⟨some ⟨bh,0,none⟩,1⟩ 1) (dD _ _)) (fun w hw=>trivial) (fun v F hv'=>?_)
     obtain⟨a',c',C',hO',rfl⟩:=hv'
     conv=>whnf
     repeat (refine aa.of ?_;conv=>whnf)
     refine⟨(i+1,a',c',C',P ++ [(⟨1,L[i],27,[2]⟩,⟨some ⟨bh,0,none⟩,1⟩)]),⟨⟨hlt',g.next hx (bR _ _) (by rw[hl];exact hO')⟩,by dsimp only;omega⟩,?_,?_,ao.of_le ⟨by first | exact List.Sublist.refl _ | simp,fun w hw=>⟨hw.1.1.1.next hw.1.2,hw.1.1.2⟩⟩⟩
     · conv=>whnf
       refine⟨?_,rfl⟩
       repeat (first | exact ax.nil | refine ax.any ?_ | refine ax.cons ?_ | refine ax.eq (by rw[wrap_i64 (by omega)];rfl) ?_)
     · conv=>whnf
       exact trivial
   · have hie:i=10:=by
      simp[au,bU] at hlt
      omega
     subst hie
     conv=>whnf
     repeat (refine aa.of ?_;conv=>whnf)
     refine⟨(a,cap,C,P),g,[],⟨by decide,by simp,rfl⟩,?_,ao.of_le ⟨List.Sublist.refl _,fun w hw=>hw.1⟩⟩
     repeat (first | exact ax.nil | refine ax.any ?_ | refine ax.cons ?_)
theorem PG.many {k m:Nat} {P Q:List (Ln×Hd)} {a:Option Addr} {cap:Nat} {C:List Value} (h:PG k P a cap C) (hm:Q.length=m) (hok : ∀ x∈Q,x.2.Ok x.1.l.length) (he:bq.take k++Q.map Prod.fst=bq.take (k+m)) (hlt:k+m≤63) {a':Option Addr} {cap':Nat} {C':List Value} (hO:Sx.cE 4 (k+m) a' cap' C' (P.flatMap lG++Q.flatMap lG)):PG (k+m) (P++Q) a' cap' C':=by
 have hl:=h.len
 refine⟨?_,fun y hy=>(List.mem_append.1 hy).elim (h.ok y) (hok y),by rw[List.map_append,h.eq];exact he,hlt⟩
 rw[List.length_append,hl,hm,List.flatMap_append]
 exact hO
theorem cg.many {P Q:List (Ln×Hd)} {w:World} (h:cg P w) (hr : ∀ x∈Q,af w x.2.a (x.1.l.map bo)):cg (P++Q) w:=fun y hy=>(List.mem_append.1 hy).elim (h y) (hr y)
def jA (ks hs:List Int) (h:Hd):List (Ln×Hd):=ks.map fun q=>(⟨2,0,q,hs⟩,h)
theorem fm (ks hs:List Int) (h:Hd):(jA ks hs h).length=ks.length:=by simp[jA]
theorem cP {ks hs:List Int} {h:Hd} {p:Ln×Hd→Prop} (hp : ∀ q,p (⟨2,0,q,hs⟩,h)) : ∀ x∈jA ks hs h,p x:=by
 intro x hx
 obtain⟨q,-,rfl⟩:=List.mem_map.1 hx
 exact hp q
theorem z8 (h:LB 23 44 w0 av b1):LA 22 44 w0 av b1:=by
 intro a cap C P g
 refine az.bT ae 1 (ι:=Hd) (fun x=>x.Ok 10) (fun x=>pW b1 x) (fun _=>[]) (fun x=>⟨fun w=>cg P w∧af w x.a ((bU 1).map bo),[]++aA b1 44 a cap C ++ []⟩) ?_ ?_
 rotate_left
 · intro x hx bs' hbs'
   obtain rfl:=List.eq_nil_of_length_eq_zero hbs'
   rw[aP]
   exact h x a cap C P hx g
 · conv=>whnf
   repeat (refine aa.of ?_;conv=>whnf)
   refine aw.pure (cY 1 (by decide)) (fun w hw=>trivial) (fun v F hv=>?_)
   obtain⟨hh,hho,rfl,rfl⟩:=hv
   conv=>whnf
   repeat (refine aa.of ?_;conv=>whnf)
   refine⟨hh,hho,[],⟨by decide,by simp,rfl⟩,?_,ao.of_le ⟨by simp[Fx.and],fun w hw=>hw⟩⟩
   repeat (first | exact ax.nil | refine ax.any ?_ | refine ax.cons ?_)
theorem Ad (h:LB 24 45 w0 av b1):LB 23 44 w0 av b1:=by
 intro hl a cap C P hlo g
 refine az.bT ae 1 (ι:=Option Addr×Nat×List Value×List (Ln×Hd)) (fun x=>PG 45 x.2.2.2 x.1 x.2.1 x.2.2.1) (fun _=>pW b1 hl) (fun _=>[]) (fun x=>⟨fun w=>cg x.2.2.2 w∧af w hl.a ((bU 1).map bo),[]++aA b1 45 x.1 x.2.1 x.2.2.1 ++ []⟩) ?_ ?_
 rotate_left
 · intro x hx bs' hbs'
   obtain rfl:=List.eq_nil_of_length_eq_zero hbs'
   rw[aP]
   exact h hl x.1 x.2.1 x.2.2.1 x.2.2.2 hlo hx
 · have hlen:=g.len
   have hO:=g.own
   rw[hlen] at hO
   conv=>whnf
   repeat (refine aa.of ?_;conv=>whnf)
   refine ar.build ae rfl rfl rfl [.int .i64 1] rfl rfl (by simp[Value.cells]) (by decide) fun bk=>?_
   conv=>whnf
   repeat (refine aa.of ?_;conv=>whnf)
   refine aw.bJ (F':=⟨fun w=>(cg P w∧af w hl.a ((bU 1).map bo))∧af w (some ⟨bk,0,none⟩) [.int .i64 1],[]++aA b1 44 a cap C ++ []⟩) (ao.trans (ao.of_le (F':=⟨fun w=>(cg P w∧af w hl.a ((bU 1).map bo)),([]++aA b1 44 a cap C ++ []) ++ [(bk,Row.c [.int .i64 1])]⟩) ⟨by simp[Value.cells],fun w hw=>hw⟩) ao.a_) ?_
   refine aw.rows (cU b1 44 a cap C _ hO (by decide) hl 10 ⟨some ⟨bk,0,none⟩,1⟩ [1] (bR _ _) (by decide)) (fun w hw=>hw.2) (fun v F hv=>?_)
   obtain⟨a',c',C',hO',rfl⟩:=hv
   have hO2:Sx.cE 4 (44+1) a' c' C' (P.flatMap lG++(jA [1] (bU 1) hl).flatMap lG):=hO'
   conv=>whnf
   repeat (refine aa.of ?_;conv=>whnf)
   refine⟨(a',c',C',P++jA [1] (bU 1) hl),g.many (m:=1) (Q:=jA [1] (bU 1) hl) (fm _ _ _) (cP fun _=>hlo) rfl (by decide) hO2,[],⟨by decide,by simp,rfl⟩,?_,ao.of_le ⟨by simp,fun w hw=>⟨(hw.1.1.1).many (cP fun _=>hw.1.1.2),hw.1.1.2⟩⟩⟩
   repeat (first | exact ax.nil | refine ax.any ?_ | refine ax.cons ?_)
theorem Aj (h:LB 25 46 w0 av b1):LB 24 45 w0 av b1:=by
 intro hl a cap C P hlo g
 refine az.bT ae 1 (ι:=Option Addr×Nat×List Value×List (Ln×Hd)) (fun x=>PG 46 x.2.2.2 x.1 x.2.1 x.2.2.1) (fun _=>pW b1 hl) (fun _=>[]) (fun x=>⟨fun w=>cg x.2.2.2 w∧af w hl.a ((bU 1).map bo),[]++aA b1 46 x.1 x.2.1 x.2.2.1 ++ []⟩) ?_ ?_
 rotate_left
 · intro x hx bs' hbs'
   obtain rfl:=List.eq_nil_of_length_eq_zero hbs'
   rw[aP]
   exact h hl x.1 x.2.1 x.2.2.1 x.2.2.2 hlo hx
 · have hlen:=g.len
   have hO:=g.own
   rw[hlen] at hO
   conv=>whnf
   repeat (refine aa.of ?_;conv=>whnf)
   refine ar.build ae rfl rfl rfl [.int .i64 3,.int .i64 4,.int .i64 5,.int .i64 10] rfl rfl (by simp[Value.cells]) (by decide) fun bh=>?_
   conv=>whnf
   repeat (refine aa.of ?_;conv=>whnf)
   refine ar.build ae rfl rfl rfl [.int .i64 2] rfl rfl (by simp[Value.cells]) (by decide) fun bk=>?_
   conv=>whnf
   repeat (refine aa.of ?_;conv=>whnf)
   refine aw.bJ (F':=⟨fun w=>((cg P w∧af w hl.a ((bU 1).map bo))∧af w (some ⟨bh,0,none⟩) [.int .i64 3,.int .i64 4,.int .i64 5,.int .i64 10])∧af w (some ⟨bk,0,none⟩) [.int .i64 2],[]++aA b1 45 a cap C ++ []⟩) (ao.trans (ao.of_le (F':=⟨fun w=>(cg P w∧af w hl.a ((bU 1).map bo)),(([]++aA b1 45 a cap C ++ []) ++ [(bh,Row.c [.int .i64 3,.int .i64 4,.int .i64 5,.int .i64 10])]) ++ [(bk,Row.c [.int .i64 2])]⟩) ⟨by simp[Value.cells],fun w hw=>hw⟩) (ao.trans ao.a_ (ao.trans ao.a_ (ao.imp fun w hw=>⟨⟨hw.1.1,hw.2⟩,hw.1.2⟩)))) ?_
   refine aw.rows (cU b1 45 a cap C _ hO (by decide) (⟨some ⟨bh,0,none⟩,4⟩:Hd) 4 ⟨some ⟨bk,0,none⟩,1⟩ [2] (bR _ _) (by decide)) (fun w hw=>hw.2) (fun v F hv=>?_)
   obtain⟨a',c',C',hO',rfl⟩:=hv
   have hO2:Sx.cE 4 (45+1) a' c' C' (P.flatMap lG++(jA [2] [3,4,5,10] (⟨some ⟨bh,0,none⟩,4⟩:Hd)).flatMap lG):=hO'
   conv=>whnf
   repeat (refine aa.of ?_;conv=>whnf)
   refine⟨(a',c',C',P++jA [2] [3,4,5,10] (⟨some ⟨bh,0,none⟩,4⟩:Hd)),g.many (m:=1) (Q:=jA [2] [3,4,5,10] (⟨some ⟨bh,0,none⟩,4⟩:Hd)) (fm _ _ _) (cP fun _=>bR _ _) rfl (by decide) hO2,[],⟨by decide,by simp,rfl⟩,?_,ao.of_le ⟨by simp,fun w hw=>⟨(hw.1.1.1.1).many (cP fun _=>hw.1.1.2),hw.1.1.1.2⟩⟩⟩
   repeat (first | exact ax.nil | refine ax.any ?_ | refine ax.cons ?_)
theorem Ae (h:LB 26 47 w0 av b1):LB 25 46 w0 av b1:=by
 intro hl a cap C P hlo g
 refine az.bT ae 1 (ι:=Option Addr×Nat×List Value×List (Ln×Hd)) (fun x=>PG 47 x.2.2.2 x.1 x.2.1 x.2.2.1) (fun _=>pW b1 hl) (fun _=>[]) (fun x=>⟨fun w=>cg x.2.2.2 w∧af w hl.a ((bU 1).map bo),[]++aA b1 47 x.1 x.2.1 x.2.2.1 ++ []⟩) ?_ ?_
 rotate_left
 · intro x hx bs' hbs'
   obtain rfl:=List.eq_nil_of_length_eq_zero hbs'
   rw[aP]
   exact h hl x.1 x.2.1 x.2.2.1 x.2.2.2 hlo hx
 · have hlen:=g.len
   have hO:=g.own
   rw[hlen] at hO
   conv=>whnf
   repeat (refine aa.of ?_;conv=>whnf)
   refine ar.build ae rfl rfl rfl [.int .i64 7,.int .i64 8,.int .i64 9] rfl rfl (by simp[Value.cells]) (by decide) fun bh=>?_
   conv=>whnf
   repeat (refine aa.of ?_;conv=>whnf)
   refine ar.build ae rfl rfl rfl [.int .i64 3] rfl rfl (by simp[Value.cells]) (by decide) fun bk=>?_
   conv=>whnf
   repeat (refine aa.of ?_;conv=>whnf)
   refine aw.bJ (F':=⟨fun w=>((cg P w∧af w hl.a ((bU 1).map bo))∧af w (some ⟨bh,0,none⟩) [.int .i64 7,.int .i64 8,.int .i64 9])∧af w (some ⟨bk,0,none⟩) [.int .i64 3],[]++aA b1 46 a cap C ++ []⟩) (ao.trans (ao.of_le (F':=⟨fun w=>(cg P w∧af w hl.a ((bU 1).map bo)),(([]++aA b1 46 a cap C ++ []) ++ [(bh,Row.c [.int .i64 7,.int .i64 8,.int .i64 9])]) ++ [(bk,Row.c [.int .i64 3])]⟩) ⟨by simp[Value.cells],fun w hw=>hw⟩) (ao.trans ao.a_ (ao.trans ao.a_ (ao.imp fun w hw=>⟨⟨hw.1.1,hw.2⟩,hw.1.2⟩)))) ?_
   refine aw.rows (cU b1 46 a cap C _ hO (by decide) (⟨some ⟨bh,0,none⟩,3⟩:Hd) 3 ⟨some ⟨bk,0,none⟩,1⟩ [3] (bR _ _) (by decide)) (fun w hw=>hw.2) (fun v F hv=>?_)
   obtain⟨a',c',C',hO',rfl⟩:=hv
   have hO2:Sx.cE 4 (46+1) a' c' C' (P.flatMap lG++(jA [3] [7,8,9] (⟨some ⟨bh,0,none⟩,3⟩:Hd)).flatMap lG):=hO'
   conv=>whnf
   repeat (refine aa.of ?_;conv=>whnf)
   refine⟨(a',c',C',P++jA [3] [7,8,9] (⟨some ⟨bh,0,none⟩,3⟩:Hd)),g.many (m:=1) (Q:=jA [3] [7,8,9] (⟨some ⟨bh,0,none⟩,3⟩:Hd)) (fm _ _ _) (cP fun _=>bR _ _) rfl (by decide) hO2,[],⟨by decide,by simp,rfl⟩,?_,ao.of_le ⟨by simp,fun w hw=>⟨(hw.1.1.1.1).many (cP fun _=>hw.1.1.2),hw.1.1.1.2⟩⟩⟩
   repeat (first | exact ax.nil | refine ax.any ?_ | refine ax.cons ?_)
theorem Aw (h:LA 27 48 w0 av b1):LB 26 47 w0 av b1:=by
 intro hl a cap C P hlo g
 refine az.bT ae 1 (ι:=Option Addr×Nat×List Value×List (Ln×Hd)) (fun x=>PG 48 x.2.2.2 x.1 x.2.1 x.2.2.1) (fun _=>dM b1) (fun _=>[]) (fun x=>⟨cg x.2.2.2,[]++aA b1 48 x.1 x.2.1 x.2.2.1 ++ []⟩) ?_ ?_
 rotate_left
 · intro x hx bs' hbs'
   obtain rfl:=List.eq_nil_of_length_eq_zero hbs'
   rw[aP]
   exact h x.1 x.2.1 x.2.2.1 x.2.2.2 hx
 · have hlen:=g.len
   have hO:=g.own
   rw[hlen] at hO
   conv=>whnf
   repeat (refine aa.of ?_;conv=>whnf)
   refine ar.build ae rfl rfl rfl [.int .i64 4] rfl rfl (by simp[Value.cells]) (by decide) fun bk=>?_
   conv=>whnf
   repeat (refine aa.of ?_;conv=>whnf)
   refine aw.bJ (F':=⟨fun w=>(cg P w∧af w hl.a ((bU 1).map bo))∧af w (some ⟨bk,0,none⟩) [.int .i64 4],[]++aA b1 47 a cap C ++ []⟩) (ao.trans (ao.of_le (F':=⟨fun w=>(cg P w∧af w hl.a ((bU 1).map bo)),([]++aA b1 47 a cap C ++ []) ++ [(bk,Row.c [.int .i64 4])]⟩) ⟨by simp[Value.cells],fun w hw=>hw⟩) ao.a_) ?_
   refine aw.rows (cU b1 47 a cap C _ hO (by decide) hl 10 ⟨some ⟨bk,0,none⟩,1⟩ [4] (bR _ _) (by decide)) (fun w hw=>hw.2) (fun v F hv=>?_)
   obtain⟨a',c',C',hO',rfl⟩:=hv
   have hO2:Sx.cE 4 (47+1) a' c' C' (P.flatMap lG++(jA [4] (bU 1) hl).flatMap lG):=hO'
   conv=>whnf
   repeat (refine aa.of ?_;conv=>whnf)
   refine⟨(a',c',C',P++jA [4] (bU 1) hl),g.many (m:=1) (Q:=jA [4] (bU 1) hl) (fm _ _ _) (cP fun _=>hlo) rfl (by decide) hO2,[],⟨by decide,by simp,rfl⟩,?_,ao.of_le ⟨by simp,fun w hw=>(hw.1.1.1).many (cP fun _=>hw.1.1.2)⟩⟩
   repeat (first | exact ax.nil | refine ax.any ?_ | refine ax.cons ?_)
theorem AE (h:LA 28 54 w0 av b1):LA 27 48 w0 av b1:=by
 intro a cap C P g
 refine az.bT ae 1 (ι:=Option Addr×Nat×List Value×List (Ln×Hd)) (fun x=>PG 54 x.2.2.2 x.1 x.2.1 x.2.2.1) (fun _=>dM b1) (fun _=>[]) (fun x=>⟨cg x.2.2.2,[]++aA b1 54 x.1 x.2.1 x.2.2.1 ++ []⟩) ?_ ?_
 rotate_left
 · intro x hx bs' hbs'
   obtain rfl:=List.eq_nil_of_length_eq_zero hbs'
   rw[aP]
   exact h x.1 x.2.1 x.2.2.1 x.2.2.2 hx
 · have hlen:=g.len
   have hO:=g.own
   rw[hlen] at hO
   conv=>whnf
   repeat (refine aa.of ?_;conv=>whnf)
   refine ar.build ae rfl rfl rfl [.int .i64 4] rfl rfl (by simp[Value.cells]) (by decide) fun bh=>?_
   conv=>whnf
   repeat (refine aa.of ?_;conv=>whnf)
   refine ar.build ae rfl rfl rfl [.int .i64 5,.int .i64 6,.int .i64 7,.int .i64 8,.int .i64 9,.int .i64 10] rfl rfl (by simp[Value.cells]) (by decide) fun bk=>?_
   conv=>whnf
   repeat (refine aa.of ?_;conv=>whnf)
   refine aw.bJ (F':=⟨fun w=>(cg P w∧af w (some ⟨bh,0,none⟩) [.int .i64 4])∧af w (some ⟨bk,0,none⟩) [.int .i64 5,.int .i64 6,.int .i64 7,.int .i64 8,.int .i64 9,.int .i64 10],[]++aA b1 48 a cap C ++ []⟩) (ao.trans (ao.of_le (F':=⟨fun w=>cg P w,(([]++aA b1 48 a cap C ++ []) ++ [(bh,Row.c [.int .i64 4])]) ++ [(bk,Row.c [.int .i64 5,.int .i64 6,.int .i64 7,.int .i64 8,.int .i64 9,.int .i64 10])]⟩) ⟨by simp[Value.cells],fun w hw=>hw⟩) (ao.trans ao.a_ (ao.trans ao.a_ (ao.imp fun w hw=>⟨⟨hw.1.1,hw.2⟩,hw.1.2⟩)))) ?_
   refine aw.rows (cU b1 48 a cap C _ hO (by decide) (⟨some ⟨bh,0,none⟩,1⟩:Hd) 1 ⟨some ⟨bk,0,none⟩,6⟩ [5,6,7,8,9,10] (bR _ _) (by decide)) (fun w hw=>hw.2) (fun v F hv=>?_)
   obtain⟨a',c',C',hO',rfl⟩:=hv
   have hO2:Sx.cE 4 (48+6) a' c' C' (P.flatMap lG++(jA [5,6,7,8,9,10] [4] (⟨some ⟨bh,0,none⟩,1⟩:Hd)).flatMap lG):=hO'
   conv=>whnf
   repeat (refine aa.of ?_;conv=>whnf)
   refine⟨(a',c',C',P++jA [5,6,7,8,9,10] [4] (⟨some ⟨bh,0,none⟩,1⟩:Hd)),g.many (m:=6) (Q:=jA [5,6,7,8,9,10] [4] (⟨some ⟨bh,0,none⟩,1⟩:Hd)) (fm _ _ _) (cP fun _=>bR _ _) rfl (by decide) hO2,[],⟨by decide,by simp,rfl⟩,?_,ao.of_le ⟨by simp,fun w hw=>(hw.1.1.1).many (cP fun _=>hw.1.1.2)⟩⟩
   repeat (first | exact ax.nil | refine ax.any ?_ | refine ax.cons ?_)
theorem AG (h:LA 29 58 w0 av b1):LA 28 54 w0 av b1:=by
 intro a cap C P g
 refine az.bT ae 1 (ι:=Option Addr×Nat×List Value×List (Ln×Hd)) (fun x=>PG 58 x.2.2.2 x.1 x.2.1 x.2.2.1) (fun _=>dM b1) (fun _=>[]) (fun x=>⟨cg x.2.2.2,[]++aA b1 58 x.1 x.2.1 x.2.2.1 ++ []⟩) ?_ ?_
 rotate_left
 · intro x hx bs' hbs'
   obtain rfl:=List.eq_nil_of_length_eq_zero hbs'
   rw[aP]
   exact h x.1 x.2.1 x.2.2.1 x.2.2.2 hx
 · have hlen:=g.len
   have hO:=g.own
   rw[hlen] at hO
   conv=>whnf
   repeat (refine aa.of ?_;conv=>whnf)
   refine ar.build ae rfl rfl rfl [.int .i64 3] rfl rfl (by simp[Value.cells]) (by decide) fun bh=>?_
   conv=>whnf
   repeat (refine aa.of ?_;conv=>whnf)
   refine ar.build ae rfl rfl rfl [.int .i64 11,.int .i64 12,.int .i64 13,.int .i64 14] rfl rfl (by simp[Value.cells]) (by decide) fun bk=>?_
   conv=>whnf
   repeat (refine aa.of ?_;conv=>whnf)
   refine aw.bJ (F':=⟨fun w=>(cg P w∧af w (some ⟨bh,0,none⟩) [.int .i64 3])∧af w (some ⟨bk,0,none⟩) [.int .i64 11,.int .i64 12,.int .i64 13,.int .i64 14],[]++aA b1 54 a cap C ++ []⟩) (ao.trans (ao.of_le (F':=⟨fun w=>cg P w,(([]++aA b1 54 a cap C ++ []) ++ [(bh,Row.c [.int .i64 3])]) ++ [(bk,Row.c [.int .i64 11,.int .i64 12,.int .i64 13,.int .i64 14])]⟩) ⟨by simp[Value.cells],fun w hw=>hw⟩) (ao.trans ao.a_ (ao.trans ao.a_ (ao.imp fun w hw=>⟨⟨hw.1.1,hw.2⟩,hw.1.2⟩)))) ?_
   refine aw.rows (cU b1 54 a cap C _ hO (by decide) (⟨some ⟨bh,0,none⟩,1⟩:Hd) 1 ⟨some ⟨bk,0,none⟩,4⟩ [11,12,13,14] (bR _ _) (by decide)) (fun w hw=>hw.2) (fun v F hv=>?_)
   obtain⟨a',c',C',hO',rfl⟩:=hv
   have hO2:Sx.cE 4 (54+4) a' c' C' (P.flatMap lG++(jA [11,12,13,14] [3] (⟨some ⟨bh,0,none⟩,1⟩:Hd)).flatMap lG):=hO'
   conv=>whnf
   repeat (refine aa.of ?_;conv=>whnf)
   refine⟨(a',c',C',P++jA [11,12,13,14] [3] (⟨some ⟨bh,0,none⟩,1⟩:Hd)),g.many (m:=4) (Q:=jA [11,12,13,14] [3] (⟨some ⟨bh,0,none⟩,1⟩:Hd)) (fm _ _ _) (cP fun _=>bR _ _) rfl (by decide) hO2,[],⟨by decide,by simp,rfl⟩,?_,ao.of_le ⟨by simp,fun w hw=>(hw.1.1.1).many (cP fun _=>hw.1.1.2)⟩⟩
   repeat (first | exact ax.nil | refine ax.any ?_ | refine ax.cons ?_)
theorem Ai (h:LA 30 59 w0 av b1):LA 29 58 w0 av b1:=by
 intro a cap C P g
 refine az.bT ae 1 (ι:=Option Addr×Nat×List Value×List (Ln×Hd)) (fun x=>PG 59 x.2.2.2 x.1 x.2.1 x.2.2.1) (fun _=>dM b1) (fun _=>[]) (fun x=>⟨cg x.2.2.2,[]++aA b1 59 x.1 x.2.1 x.2.2.1 ++ []⟩) ?_ ?_
 rotate_left
 · intro x hx bs' hbs'
   obtain rfl:=List.eq_nil_of_length_eq_zero hbs'
   rw[aP]
   exact h x.1 x.2.1 x.2.2.1 x.2.2.2 hx
 · have hlen:=g.len
   have hO:=g.own
   rw[hlen] at hO
   conv=>whnf
   repeat (refine aa.of ?_;conv=>whnf)
   refine ar.build ae rfl rfl rfl [.int .i64 5] rfl rfl (by simp[Value.cells]) (by decide) fun bh=>?_
   conv=>whnf
   repeat (refine aa.of ?_;conv=>whnf)
   refine ar.build ae rfl rfl rfl [.int .i64 15] rfl rfl (by simp[Value.cells]) (by decide) fun bk=>?_
   conv=>whnf
   repeat (refine aa.of ?_;conv=>whnf)
   refine aw.bJ (F':=⟨fun w=>(cg P w∧af w (some ⟨bh,0,none⟩) [.int .i64 5])∧af w (some ⟨bk,0,none⟩) [.int .i64 15],[]++aA b1 58 a cap C ++ []⟩) (ao.trans (ao.of_le (F':=⟨fun w=>cg P w,(([]++aA b1 58 a cap C ++ []) ++ [(bh,Row.c [.int .i64 5])]) ++ [(bk,Row.c [.int .i64 15])]⟩) ⟨by simp[Value.cells],fun w hw=>hw⟩) (ao.trans ao.a_ (ao.trans ao.a_ (ao.imp fun w hw=>⟨⟨hw.1.1,hw.2⟩,hw.1.2⟩)))) ?_
   refine aw.rows (cU b1 58 a cap C _ hO (by decide) (⟨some ⟨bh,0,none⟩,1⟩:Hd) 1 ⟨some ⟨bk,0,none⟩,1⟩ [15] (bR _ _) (by decide)) (fun w hw=>hw.2) (fun v F hv=>?_)
   obtain⟨a',c',C',hO',rfl⟩:=hv
   have hO2:Sx.cE 4 (58+1) a' c' C' (P.flatMap lG++(jA [15] [5] (⟨some ⟨bh,0,none⟩,1⟩:Hd)).flatMap lG):=hO'
   conv=>whnf
   repeat (refine aa.of ?_;conv=>whnf)
   refine⟨(a',c',C',P++jA [15] [5] (⟨some ⟨bh,0,none⟩,1⟩:Hd)),g.many (m:=1) (Q:=jA [15] [5] (⟨some ⟨bh,0,none⟩,1⟩:Hd)) (fm _ _ _) (cP fun _=>bR _ _) rfl (by decide) hO2,[],⟨by decide,by simp,rfl⟩,?_,ao.of_le ⟨by simp,fun w hw=>(hw.1.1.1).many (cP fun _=>hw.1.1.2)⟩⟩
   repeat (first | exact ax.nil | refine ax.any ?_ | refine ax.cons ?_)
theorem Au (h:LA 31 60 w0 av b1):LA 30 59 w0 av b1:=by
 intro a cap C P g
 refine az.bT ae 1 (ι:=Option Addr×Nat×List Value×List (Ln×Hd)) (fun x=>PG 60 x.2.2.2 x.1 x.2.1 x.2.2.1) (fun _=>dM b1) (fun _=>[]) (fun x=>⟨cg x.2.2.2,[]++aA b1 60 x.1 x.2.1 x.2.2.1 ++ []⟩) ?_ ?_
 rotate_left
 · intro x hx bs' hbs'
   obtain rfl:=List.eq_nil_of_length_eq_zero hbs'
   rw[aP]
   exact h x.1 x.2.1 x.2.2.1 x.2.2.2 hx
 · have hlen:=g.len
   have hO:=g.own
   rw[hlen] at hO
   conv=>whnf
   repeat (refine aa.of ?_;conv=>whnf)
   refine ar.build ae rfl rfl rfl [.int .i64 1] rfl rfl (by simp[Value.cells]) (by decide) fun bh=>?_
   conv=>whnf
   repeat (refine aa.of ?_;conv=>whnf)
   refine ar.build ae rfl rfl rfl [.int .i64 16] rfl rfl (by simp[Value.cells]) (by decide) fun bk=>?_
   conv=>whnf
   repeat (refine aa.of ?_;conv=>whnf)
   refine aw.bJ (F':=⟨fun w=>(cg P w∧af w (some ⟨bh,0,none⟩) [.int .i64 1])∧af w (some ⟨bk,0,none⟩) [.int .i64 16],[]++aA b1 59 a cap C ++ []⟩) (ao.trans (ao.of_le (F':=⟨fun w=>cg P w,(([]++aA b1 59 a cap C ++ []) ++ [(bh,Row.c [.int .i64 1])]) ++ [(bk,Row.c [.int .i64 16])]⟩) ⟨by simp[Value.cells],fun w hw=>hw⟩) (ao.trans ao.a_ (ao.trans ao.a_ (ao.imp fun w hw=>⟨⟨hw.1.1,hw.2⟩,hw.1.2⟩)))) ?_
   refine aw.rows (cU b1 59 a cap C _ hO (by decide) (⟨some ⟨bh,0,none⟩,1⟩:Hd) 1 ⟨some ⟨bk,0,none⟩,1⟩ [16] (bR _ _) (by decide)) (fun w hw=>hw.2) (fun v F hv=>?_)
   obtain⟨a',c',C',hO',rfl⟩:=hv
   have hO2:Sx.cE 4 (59+1) a' c' C' (P.flatMap lG++(jA [16] [1] (⟨some ⟨bh,0,none⟩,1⟩:Hd)).flatMap lG):=hO'
   conv=>whnf
   repeat (refine aa.of ?_;conv=>whnf)
   refine⟨(a',c',C',P++jA [16] [1] (⟨some ⟨bh,0,none⟩,1⟩:Hd)),g.many (m:=1) (Q:=jA [16] [1] (⟨some ⟨bh,0,none⟩,1⟩:Hd)) (fm _ _ _) (cP fun _=>bR _ _) rfl (by decide) hO2,[],⟨by decide,by simp,rfl⟩,?_,ao.of_le ⟨by simp,fun w hw=>(hw.1.1.1).many (cP fun _=>hw.1.1.2)⟩⟩
   repeat (first | exact ax.nil | refine ax.any ?_ | refine ax.cons ?_)
theorem z7 (h:LA 32 63 w0 av b1):LA 31 60 w0 av b1:=by
 intro a cap C P g
 refine az.bT ae 1 (ι:=Option Addr×Nat×List Value×List (Ln×Hd)) (fun x=>PG 63 x.2.2.2 x.1 x.2.1 x.2.2.1) (fun _=>dM b1) (fun _=>[]) (fun x=>⟨cg x.2.2.2,[]++aA b1 63 x.1 x.2.1 x.2.2.1 ++ []⟩) ?_ ?_
 rotate_left
 · intro x hx bs' hbs'
   obtain rfl:=List.eq_nil_of_length_eq_zero hbs'
   rw[aP]
   exact h x.1 x.2.1 x.2.2.1 x.2.2.2 hx
 · conv=>whnf
   repeat (refine aa.of ?_;conv=>whnf)
   refine ar.build ae rfl rfl rfl [.int .i64 7,.int .i64 8,.int .i64 9] rfl rfl (by simp[Value.cells]) (by decide) fun bv=>?_
   conv=>whnf
   repeat (refine aa.of ?_;conv=>whnf)
   obtain⟨L,hL⟩ : ∃ L:List Int,L = [7,8,9]:=⟨_,rfl⟩
   have hE:ao (⟨cg P,([]++aA b1 60 a cap C ++ []) ++ [(bv,Row.c [.int .i64 7,.int .i64 8,.int .i64 9])]⟩:Fx) ⟨fun w=>cg P w∧af w (some ⟨bv,0,none⟩) (L.map bo),[]++aA b1 (60+0) a cap C ++ []⟩:=by rw[hL];exact ao.a_
   have hLl:L.length=3:=by rw[hL];decide
   have hLn : ∀ i,i<3→bq[60+i]? = some ⟨3,0,((1+i:Nat):Int),[L[i]!]⟩:=by rw[hL];decide
   refine az.loop ae (ι:=Nat×Option Addr×Nat×List Value×List (Ln×Hd)) ([13,14,121]++List.range' 122 14) (fun x=>x.1≤3∧PG (60+x.1) x.2.2.2.2 x.2.1 x.2.2.1 x.2.2.2.1) (fun x=>[(121,.v (.int .i64 (x.1:Int)))]) (fun _=>[])
    (fun x=>⟨fun w=>cg x.2.2.2.2 w∧af w (some ⟨bv,0,none⟩) (L.map bo),[]++aA b1 (60+x.1) x.2.1 x.2.2.1 x.2.2.2.1 ++ []⟩) (fun x=>3 - x.1) (0,a,cap,C,P) ⟨Nat.zero_le _,g⟩ ?_ rfl (ao.trans (ao.of_le ⟨by simp[Value.cells],fun w hw=>hw⟩) hE) fun x hx=>?_
   · conv=>whnf
     repeat (first | exact ax.nil | refine ax.any ?_ | refine ax.cons ?_)
   clear g hE
   obtain⟨i,a,cap,C,P⟩:=x
   obtain⟨hi,g⟩:=hx
   dsimp only at hi g ⊢
   have hl:=g.len
   have hO:=g.own
   rw[hl] at hO
   conv=>whnf
   repeat (refine aa.of ?_;conv=>whnf)
   refine bV.split (fun hlt=>?_) (fun hlt=>?_)
   · have hlt':i<3:=by
      simp[au] at hlt
      omega
     have hx:=hLn i hlt'
     have hLi:L[i]! = L[i]:=by simp[hLl,hlt']
     rw[hLi] at hx
     have hw1:IntKind.i64.wrap (1+(i:Int))=((1+i:Nat):Int):=by rw[wrap_i64 (by omega)];omega
     conv=>whnf
     repeat (refine aa.of ?_;conv=>whnf)
     refine ar.aj (ak.index ae rfl rfl rfl (by omega) (by omega) (fun h=>by cases h) fun ad had=>?_)
     conv=>whnf
     repeat (refine aa.of ?_;conv=>whnf)
     refine ar.aj (ak.load ae rfl rfl (ad:=ad) (k:=i) (L:=L.map bo) (v:=.int .i64 L[i]) (.fact fun w hw=>had ▸ hw.2) (by simp) (by rw[List.getElem?_map,List.getElem?_eq_getElem (by omega)];rfl) ?_)
     conv=>whnf
     repeat (refine aa.of ?_;conv=>whnf)
     refine ar.aj (ak.aG ae rfl rfl (ad:=⟨b1,0,none⟩) (k:=0) (L:=[.slice a (60+i) cap]) (v:=.slice a (60+i) cap) (aF.row (by simp[aA])) (fun _=>rfl) rfl ?_)
     conv=>whnf
     repeat (refine aa.of ?_;conv=>whnf)
     refine ar.build ae rfl rfl rfl [.int .i64 L[i]] rfl rfl (by simp[Value.cells]) (by decide) fun bh=>?_
     conv=>whnf
     repeat (refine aa.of ?_;conv=>whnf)
     refine ar.build ae rfl rfl rfl [.agg ⟨[bo 3,bo 0,.int .i64 (IntKind.i64.wrap (1+(i:Int))),.slice (some ⟨bh,0,none⟩) 1 1]⟩] rfl rfl (by simp[Value.cells]) (by decide) fun b5=>?_
     rw[hw1]
     conv=>whnf
     repeat (refine aa.of ?_;conv=>whnf)
     refine ar.bJ (F':=⟨fun w=>(cg P w∧af w (some ⟨bv,0,none⟩) (L.map bo))∧af w (some ⟨bh,0,none⟩) [.int .i64 L[i]],[(b1,Row.c [.slice a (60+i) cap])]++bn a C ++ [(b5,Row.c [bo 3,bo 0,.int .i64 ((1+i:Nat):Int),.slice (some ⟨bh,0,none⟩) 1 1])]⟩)
      (ao.trans (ao.perm (rs':=([(b1,Row.c [.slice a (60+i) cap])]++bn a C ++ [(b5,Row.c [bo 3,bo 0,.int .i64 ((1+i:Nat):Int),.slice (some ⟨bh,0,none⟩) 1 1])]) ++ [(bh,Row.c [.int .i64 L[i]])]) (by simp[Value.cells,aA];exact List.Perm.append_left _ (List.Perm.swap _ _ _))) ao.a_) ?_
     refine ar.dZ ae rfl rfl rfl rfl rfl rfl (M:=[bo 3,bo 0,.int .i64 ((1+i:Nat):Int),.slice (some ⟨bh,0,none⟩) 1 1]) hO (aF.row (by simp)) rfl (List.all_eq_true.1 (by rfl)) (by omega) (by show(60+i+(60+i)/4+600)*48≤2 ^ 48;omega) fun a' c' C' hO'=>?_
     conv=>whnf
     repeat (refine aa.of ?_;conv=>whnf)
     refine aM.bJ (F':=⟨fun w=>(cg P w∧af w (some ⟨bv,0,none⟩) (L.map bo))∧af w (some ⟨bh,0,none⟩) [.int .i64 L[i]],[] ++ [(b1,Row.c [.slice a (60+i) cap])]++bn a' C'⟩) (ao.of_le ⟨by simp,fun w hw=>hw⟩) ?_
     refine aM.aY ae rfl (b:=b1) (k:=0) (X:=[.slice a' (60+i+1) c']) rfl rfl (List.all_eq_true.1 (by rfl)) (Nat.le_refl _) rfl ?_
     conv=>whnf
     repeat (refine aa.of ?_;conv=>whnf)
     refine⟨(i+1,a',c',C',P ++ [(⟨3,0,((1+i:Nat):Int),[L[i]]⟩,⟨some ⟨bh,0,none⟩,1⟩)]),⟨⟨hlt',g.next hx (bR _ _) (by rw[hl];exact hO')⟩,by dsimp only;omega⟩,?_,?_,ao.of_le ⟨by simp[aA];exact List.Sublist.refl _,fun w hw=>⟨hw.1.1.next hw.2,hw.1.2⟩⟩⟩
     · conv=>whnf
       refine⟨?_,rfl⟩
       repeat (first | exact ax.nil | refine ax.any ?_ | refine ax.cons ?_ | refine ax.eq (by rw[wrap_i64 (by omega)];rfl) ?_)
     · conv=>whnf
       exact trivial
   · have hie:i=3:=by
      simp[au] at hlt
      omega
     subst hie
     conv=>whnf
     repeat (refine aa.of ?_;conv=>whnf)
     refine⟨(a,cap,C,P),g,[],⟨by decide,by simp,rfl⟩,?_,ao.of_le ⟨List.Sublist.refl _,fun w hw=>hw.1⟩⟩
     repeat (first | exact ax.nil | refine ax.any ?_ | refine ax.cons ?_)
theorem AJ:LA 32 63 w0 av b1:=by
 intro a cap C P g
 have hl:=g.len
 have hO:=g.own
 rw[hl] at hO
 obtain⟨b,hb⟩ : ∃ ad:Addr,a=some ad:=by
  rcases hO.alt with⟨-,-,hc⟩ | ⟨b',hb,-⟩
  · have:=hO.fit
    omega
  · exact⟨_,hb⟩
 have hfit:=hO.fit
 refine az.aK ae ?_
 conv=>whnf
 repeat (refine aa.of ?_;conv=>whnf)
 refine ar.aj (ak.aG ae rfl rfl (ad:=⟨b1,0,none⟩) (k:=0) (L:=[.slice a 63 cap]) (v:=.slice a 63 cap) (aF.row (by simp[aA])) (fun _=>rfl) rfl ?_)
 conv=>whnf
 repeat (refine aa.of ?_;conv=>whnf)
 refine⟨⟨fun w=>af w a (P.flatMap lG)∧cg P w,[]⟩,ao.trans (ao.of_le (F':=⟨cg P,[]++bn a C ++ []⟩) ⟨by simp[aA],fun w hw=>hw⟩) (ao.trans (hO.share (r1:=[]) (r2:=[])) (ao.imp fun w hw=>⟨hw.2,hw.1⟩)),P,b,cap,by rw[g.eq];rfl,g.ok,hfit,by rw[hb],by rw[hb]⟩
end
theorem sr:ah Tryz.prog 76 [] (fun _=>True) xR:=by
 refine ah.f_ ae Tryz.func76 (c:=oQ) rfl (by decide) (n:=Tryz.f76.ntmps - 0) rfl fun w0 av=>?_
 show az Tryz.prog w0 (fun _ _=>False) av oQ _ [] [] _ vP
 refine az.bT ae 2 (ι:=Nat) (fun _=>True) (fun b1=>dM b1) (fun _=>[]) (fun b1=>⟨cg [],[]++aA b1 0 none 0 [] ++ []⟩) ?_ ?_
 · conv=>whnf
   repeat (refine aa.of ?_;conv=>whnf)
   refine ar.cW ae rfl (z:=[.slice none 0 0]) rfl fun b1=>?_
   conv=>whnf
   repeat (refine aa.of ?_;conv=>whnf)
   refine⟨b1,trivial,[],⟨by decide,by simp,rfl⟩,?_,ao.of_le ⟨by simp[aA,bn],fun w hw x hx=>by cases hx⟩⟩
   repeat (first | exact ax.nil | refine ax.any ?_ | refine ax.cons ?_)
 · intro b1 _ bs' hbs'
   obtain rfl:=List.eq_nil_of_length_eq_zero hbs'
   exact AR (AO (A0 (A4 (AT (A3 (AS (A2 (zZ (Ab (Ac (zX (Af (Ar (zW (Aa (AD (Ag (AK (zY (z8 (Ad (Aj (Ae (Aw (AE (AG (Ai (Au (z7 AJ))))))))))))))))))))))))))))) none 0 [] [] ⟨Sx.cE.nil 4,fun x hx=>(by cases hx),rfl,by decide⟩
theorem rD:ah Tryz.prog 76 [] (fun _=>True)
 (fun v F=>∃ (a:Addr) (c:Nat) (hd:Nat→Hd),bq.length≤c∧(∀ j,j<bq.length→(hd j).Ok (bq[j]!).l.length)∧v = .slice (some a) bq.length c∧
  F=⟨fun w=>af w (some a) ((List.range bq.length).flatMap fun j=>uP bq[j]! (hd j))∧∀ j,j<bq.length→af w (hd j).a (bq[j]!.l.map bo),[]⟩):=by
 refine sr.weaken fun v F hv=>?_
 obtain⟨P,a,c,h1,h2,h3,rfl,rfl⟩:=hv
 have hl:P.length=bq.length:=by rw[← h1,List.length_map]
 have hg : ∀ j (hj:j<P.length),bq[j]! = P[j].1:=fun j hj=>by
  rw[getElem!_pos bq j (by omega)]
  have:(P.map Prod.fst)[j]'(by simpa using hj)=P[j].1:=by simp
  rw[← this]
  congr 1
  exact h1.symm
 let hd:Nat→Hd:=fun j=>if h:j<P.length then P[j].2 else Hd.nil
 have hh : ∀ j (hj:j<P.length),hd j=P[j].2:=fun j hj=>dif_pos hj
 have hP:P=(List.range P.length).map fun j=>(bq[j]!,hd j):=by
  apply List.ext_getElem
  · simp
  · intro j hj1 hj2
    rw[List.getElem_map,List.getElem_range,hg j hj1,hh j hj1]
 have hf:P.flatMap lG=(List.range bq.length).flatMap fun j=>uP bq[j]! (hd j):=by
  rw[hP,List.flatMap_map,hl]
  rfl
 refine⟨_,ao.imp (D':=fun w=>af w (some a) ((List.range bq.length).flatMap fun j=>uP bq[j]! (hd j))∧∀ j,j<bq.length→af w (hd j).a (bq[j]!.l.map bo)) fun w hw=>⟨hf ▸ hw.1,fun j hj=>?_⟩,a,c,hd,h3,fun j hj=>?_,rfl,rfl⟩
 · rw[hh j (by omega),hg j (by omega)]
   exact hw.2 _ (List.getElem_mem _)
 · rw[hh j (by omega),hg j (by omega)]
   exact h2 _ (List.getElem_mem _)
end Go.Proofs.YtlnhdpjnlffaoaaGreatDoor
namespace Go.Proofs.YtlnhdpjnlffaoaaGreatDoor
open Go Go.Sx
set_option maxRecDepth 100000
set_option maxHeartbeats 4000000
set_option linter.unusedVariables false
set_option linter.unusedSimpArgs false
def rm (l:List Cp) (p o:Int) (r:Rt):List Cp:=l ++ [⟨((l.length+1:Nat):Int),p,o,r⟩]
theorem fM (l:List Cp) (p o:Int) (r:Rt):(rm l p o r).length=l.length+1:=by simp[rm]
theorem nr (l:List Cp) (p o:Int) (r:Rt):(rm l p o r).flatMap bB=l.flatMap bB++bB ⟨((l.length+1:Nat):Int),p,o,r⟩:=by simp[rm]
section
variable {w0:World} {R:Nat→Nat→Prop} {av:Nat→Prop}
theorem xZ {D:World→Prop} {x0 x1 x2:Nat×Nat} {c0 c2:List Value} {r1:List (Nat×Row)} {a:Option Addr} {cap:Nat} {C:List Value} (l:List Cp) (hO:Sx.cE 6 l.length a cap C (l.flatMap bB)) (hl:l.length≤1000) (p o:Int) (r:Rt) {K:KV}
 (h : ∀ a' cap' C',Sx.cE 6 (l.length+1) a' cap' C' ((rm l p o r).flatMap bB)→K (.int .i64 ((l.length+1:Nat):Int)) [x0,x1,x2] [c0,[.int .i64 ((l.length+2:Nat):Int),.slice a' (l.length+1) cap'],c2] ⟨D,r1++bn a' C' ++ []⟩) :
 aw Tryz.prog w0 R av 77 [.pointer (some ⟨x1.1,x1.2+0,none⟩),.int .i64 p,.int .i64 o,.agg ⟨uO r⟩] [x0,x1,x2] [c0,[.int .i64 ((l.length+1:Nat):Int),.slice a l.length cap],c2] ⟨D,r1++bn a C ++ []⟩ K:=by
 obtain⟨y0,z0⟩:=x0;obtain⟨y1,z1⟩:=x1;obtain⟨y2,z2⟩:=x2
 have hw:IntKind.i64.wrap (((l.length+1:Nat):Int)+1)=((l.length+2:Nat):Int):=by rw[wrap_i64 (by omega)];omega
 refine aw.tH ae Tryz.func77 rfl (by decide) (n:=Tryz.f77.ntmps - 4) [.p 1 0,.v _,.v _,.v _] rfl (by exact⟨⟨rfl,by simp⟩,rfl,rfl,rfl,trivial⟩) ?_
 conv=>whnf
 repeat (refine aa.of ?_;conv=>whnf)
 intro b7
 conv=>whnf
 repeat (refine aa.of ?_;conv=>whnf)
 refine az.draw ae mixed rfl rfl ?_
 conv=>whnf
 repeat' (first
  | (refine And.intro ?_ ?_<;>conv=>whnf)
  | (refine an.same rfl ?_;conv=>whnf)
  | (refine an.row rfl ?_;conv=>whnf)
  | (refine an.call rfl ?_;conv=>whnf)
  | (refine aS.of ?_;conv=>whnf)
  | (refine aa.of ?_;conv=>whnf)
  | (refine ar.build ae rfl rfl rfl [.agg ⟨bB ⟨((l.length+1:Nat):Int),p,o,r⟩⟩] rfl rfl (by simp[Value.cells,bB]) (by decide) fun b5=>?_;conv=>whnf)
  | (refine ar.bJ (F':=⟨D,r1++bn a C ++ [(b5,Row.c (bB ⟨((l.length+1:Nat):Int),p,o,r⟩))]⟩) (ao.of_le ⟨by simp[Value.cells],fun w hw=>hw⟩) ?_;refine ar.dZ ae rfl rfl rfl rfl rfl rfl (M:=bB ⟨((l.length+1:Nat):Int),p,o,r⟩) hO (aF.row (by simp)) rfl (List.all_eq_true.1 (by rfl)) (by omega) (by show(l.length+l.length/4+600)*48≤2 ^ 48;omega) fun a' c' C' hO'=>?_;conv=>whnf)
  | (refine an.mk ?_ ?_;(focus (first | exact ao.refl _ | exact ao.left _ _ | exact ao.of_le ⟨List.sublist_append_left _ _,fun w h=>h⟩ | exact ao.of_le ⟨List.Sublist.refl _,fun w h=>h.1⟩));conv=>whnf))
 rw[← nr] at hO'
 rw[hw]
 exact⟨⟨[(b7,0)],[c0,[.int .i64 ((l.length+2:Nat):Int),.slice a' (l.length+1) c'],c2],[uO r],⟨D,r1++bn a' C' ++ []⟩,rfl,rfl,rfl,ao.of_le ⟨by simp,fun w hw=>hw⟩,h _ _ _ hO'⟩⟩
theorem zv {D:World→Prop} {x0 x1 x2 x3:Nat×Nat} {c1 c2 c3:List Value} {r1:List (Nat×Row)} {a:Option Addr} {cap:Nat} {C:List Value} (l:List Cp) (hO:Sx.cE 6 l.length a cap C (l.flatMap bB)) (hl:l.length≤1000) (p o:Int) (r:Rt) {K:KV}
 (h : ∀ a' cap' C',Sx.cE 6 (l.length+1) a' cap' C' ((rm l p o r).flatMap bB)→K (.int .i64 ((l.length+1:Nat):Int)) [x0,x1,x2,x3] [[.int .i64 ((l.length+2:Nat):Int),.slice a' (l.length+1) cap'],c1,c2,c3] ⟨D,r1++bn a' C' ++ []⟩) :
 aw Tryz.prog w0 R av 77 [.pointer (some ⟨x0.1,x0.2+0,none⟩),.int .i64 p,.int .i64 o,.agg ⟨uO r⟩] [x0,x1,x2,x3] [[.int .i64 ((l.length+1:Nat):Int),.slice a l.length cap],c1,c2,c3] ⟨D,r1++bn a C ++ []⟩ K:=by
 obtain⟨y0,z0⟩:=x0;obtain⟨y1,z1⟩:=x1;obtain⟨y2,z2⟩:=x2;obtain⟨y3,z3⟩:=x3
 have hw:IntKind.i64.wrap (((l.length+1:Nat):Int)+1)=((l.length+2:Nat):Int):=by rw[wrap_i64 (by omega)];omega
 refine aw.tH ae Tryz.func77 rfl (by decide) (n:=Tryz.f77.ntmps - 4) [.p 0 0,.v _,.v _,.v _] rfl (by exact⟨⟨rfl,by simp⟩,rfl,rfl,rfl,trivial⟩) ?_
 conv=>whnf
 repeat (refine aa.of ?_;conv=>whnf)
 intro b7
 conv=>whnf
 repeat (refine aa.of ?_;conv=>whnf)
 refine az.draw ae mixed rfl rfl ?_
 conv=>whnf
 repeat' (first
  | (refine And.intro ?_ ?_<;>conv=>whnf)
  | (refine an.same rfl ?_;conv=>whnf)
  | (refine an.row rfl ?_;conv=>whnf)
  | (refine an.call rfl ?_;conv=>whnf)
  | (refine aS.of ?_;conv=>whnf)
  | (refine aa.of ?_;conv=>whnf)
  | (refine ar.build ae rfl rfl rfl [.agg ⟨bB ⟨((l.length+1:Nat):Int),p,o,r⟩⟩] rfl rfl (by simp[Value.cells,bB]) (by decide) fun b5=>?_;conv=>whnf)
  | (refine ar.bJ (F':=⟨D,r1++bn a C ++ [(b5,Row.c (bB ⟨((l.length+1:Nat):Int),p,o,r⟩))]⟩) (ao.of_le ⟨by simp[Value.cells],fun w hw=>hw⟩) ?_;refine ar.dZ ae rfl rfl rfl rfl rfl rfl (M:=bB ⟨((l.length+1:Nat):Int),p,o,r⟩) hO (aF.row (by simp)) rfl (List.all_eq_true.1 (by rfl)) (by omega) (by show(l.length+l.length/4+600)*48≤2 ^ 48;omega) fun a' c' C' hO'=>?_;conv=>whnf)
  | (refine an.mk ?_ ?_;(focus (first | exact ao.refl _ | exact ao.left _ _ | exact ao.of_le ⟨List.sublist_append_left _ _,fun w h=>h⟩ | exact ao.of_le ⟨List.Sublist.refl _,fun w h=>h.1⟩));conv=>whnf))
 rw[← nr] at hO'
 rw[hw]
 exact⟨⟨[(b7,0)],[[.int .i64 ((l.length+2:Nat):Int),.slice a' (l.length+1) c'],c1,c2,c3],[uO r],⟨D,r1++bn a' C' ++ []⟩,rfl,rfl,rfl,ao.of_le ⟨by simp,fun w hw=>hw⟩,h _ _ _ hO'⟩⟩
end
def iQ (r:Rt) (root:Int) (l:List Cp) (hs:List Int):List Cp:=hs.foldl (fun s h=>rm s root h r) l
def w7 (x:Ln):Rt:=⟨x.a,x.b,x.c⟩
def qK (l:List Cp) (x:Ln):List Cp:=iQ (w7 x) ((l.length+1:Nat):Int) (rm l 0 0 (w7 x)) x.l
def en (L:List Ln):List Cp:=L.foldl qK []
theorem rZ (r:Rt) (root:Int) (l:List Cp) (hs:List Int) {j:Nat} (hj:j<hs.length):iQ r root l (hs.take (j+1))=rm (iQ r root l (hs.take j)) root hs[j] r:=by
 unfold iQ
 rw[List.take_succ_eq_append_getElem hj,List.foldl_append]
 rfl
theorem nN (r:Rt) (root:Int) : ∀ (hs:List Int) (l:List Cp),(iQ r root l hs).length=l.length+hs.length
 | [],l=>rfl
 | h::hs,l=>by
  show(iQ r root (rm l root h r) hs).length=_
  rw[nN r root hs,fM,List.length_cons]
  omega
theorem sQ (L:List Ln) {i:Nat} (hi:i<L.length):en (L.take (i+1))=qK (en (L.take i)) L[i]:=by
 unfold en
 rw[List.take_succ_eq_append_getElem hi,List.foldl_append]
 rfl
theorem rG : ∀ i,i≤63→(en (bq.take i)).length≤200:=by
 have h:(List.range 64).all (fun i=>decide ((en (bq.take i)).length≤200))=true:=by decide +kernel
 intro i hi
 exact of_decide_eq_true (List.all_eq_true.1 h i (List.mem_range.2 (by omega)))
theorem uk : ∀ i,i<63→(bq[i]!).l.length≤20:=by
 have h:(List.range 63).all (fun i=>decide ((bq[i]!).l.length≤20))=true:=by decide +kernel
 intro i hi
 exact of_decide_eq_true (List.all_eq_true.1 h i (List.mem_range.2 hi))
end Go.Proofs.YtlnhdpjnlffaoaaGreatDoor
namespace Go.Proofs.YtlnhdpjnlffaoaaGreatDoor
open Go Go.Sx
set_option maxRecDepth 100000
set_option maxHeartbeats 4000000
set_option linter.unusedVariables false
set_option linter.unusedSimpArgs false
def rj (L:List Ln) (hd:Nat→Hd):List Value:=(List.range L.length).flatMap fun j=>uP L[j]! (hd j)
theorem vT (L:List Ln) (hd:Nat→Hd) {i:Nat} (hi:i<L.length):((rj L hd).drop (i*4)).take 4=uP L[i] (hd i):=by
 unfold rj
 rw[bj (cf:=fun j=>uP L[j]! (hd j)) (z:=4) (fun _=>rfl) (l:=List.range L.length) (by simpa using hi)]
 simp[hi]
structure A7 (L:List Ln) (i j:Nat) (l:List Cp):Prop where
 len:l.length≤300
 eq:l=iQ (w7 L[i]!) (((en (L.take i)).length+1:Nat):Int) (rm (en (L.take i)) 0 0 (w7 L[i]!)) (L[i]!.l.take j)
theorem tY (entT:List Cp) (hE : ∀ h:Hd,h.Ok (en bq).length→ah Tryz.prog 78 [.agg ⟨[.int .i64 (((en bq).length+1:Nat):Int),h.v (en bq).length]⟩,.int .i64 16] (fun w=>af w h.a ((en bq).flatMap bB))
 (fun v F=>∃ k:Hd,k.Ok entT.length∧v = .tuple ⟨[.agg ⟨[.int .i64 ((entT.length+1:Nat):Int),k.v entT.length]⟩,.int .i64 0]⟩∧F=⟨fun w=>af w k.a (entT.flatMap bB),[]⟩)) :
 ah Tryz.prog 28 [] (fun _=>True) (fun v F=>∃ h:Hd,h.Ok entT.length∧v = .agg ⟨[.int .i64 ((entT.length+1:Nat):Int),h.v entT.length]⟩∧F=⟨fun w=>af w h.a (entT.flatMap bB),[]⟩):=by
 have h1:=rD
 have hsm:=rG
 have hho:=uk
 have hL63:bq.length=63:=by decide
 obtain⟨L,hL⟩ : ∃ L,bq=L:=⟨_,rfl⟩
 rw[hL] at h1 hsm hho hL63
 have hEL:=hE
 rw[hL] at hEL
 clear hE hL
 obtain⟨n,hn⟩ : ∃ n,L.length=n:=⟨_,rfl⟩
 rw[hn] at h1 hL63
 refine ah.aK ae Tryz.func28 rfl (by decide) (n:=Tryz.f28.ntmps - 0) rfl rfl fun w0 av=>?_
 refine lM ?_
 refine nP (ti:=(Sx.look aU 84).get rfl) rfl rfl ?_
 conv=>whnf
 repeat (refine aa.of ?_;conv=>whnf)
 intro b0
 conv=>whnf
 repeat (refine aa.of ?_;conv=>whnf)
 intro b1
 conv=>whnf
 repeat (refine aa.of ?_;conv=>whnf)
 refine aw.pure h1 (fun w hw=>trivial) (fun v D hv=>?_)
 obtain⟨aL,cL,hd,hcL,hhd,rfl,rfl⟩:=hv
 conv=>whnf
 repeat (refine aa.of ?_;conv=>whnf)
 refine az.loop ae (ι:=Nat×List Cp×Option Addr×Nat×List Value) ([3,4,6,10]++List.range' 11 20) (fun x=>x.1≤n∧x.2.1=en (L.take x.1)∧Sx.cE 6 x.2.1.length x.2.2.1 x.2.2.2.1 x.2.2.2.2 (x.2.1.flatMap bB))
  (fun x=>[(10,.v (.int .i64 (x.1:Int)))]) (fun x=>[[.int .i64 0,.slice none 0 0],[.int .i64 ((x.2.1.length+1:Nat):Int),.slice x.2.2.1 x.2.1.length x.2.2.2.1]]) (fun x=>⟨fun w=>af w (some aL) (rj L hd)∧∀ j,j<n→af w (hd j).a (L[j]!.l.map bo),[]++bn x.2.2.1 x.2.2.2.2 ++ []⟩)
  (fun x=>n - x.1) (0,[],none,0,[]) ⟨Nat.zero_le _,by simp[en],Sx.cE.nil 6⟩ ?_ rfl (ao.of_le ⟨by simp[bn,Fx.and],fun w hw=>?_⟩) fun x hx=>?_
 · conv=>whnf
   repeat (first | exact ax.nil | refine ax.any ?_ | refine ax.cons ?_)
 · obtain⟨-,hw1,hw2⟩:=hw
   exact⟨by unfold rj;rw[hn];exact hw1,hw2⟩
 obtain⟨i,l,a,cap,C⟩:=x
 obtain⟨hi,hl,hO⟩:=hx
 dsimp only at hi hl hO ⊢
 conv=>whnf
 repeat (refine aa.of ?_;conv=>whnf)
 refine bV.split (fun hlt=>?_) (fun hlt=>?_)
 · have hlt':i<n:=by
    simp[au] at hlt
    omega
   conv=>whnf
   repeat (refine aa.of ?_;conv=>whnf)
   refine ar.aj (ak.index ae rfl rfl rfl (by omega) (by omega) (fun h=>by cases h) fun ad had=>?_)
   conv=>whnf
   repeat (refine aa.of ?_;conv=>whnf)
   refine ar.aj (ak.aT ae rfl rfl (ad:=ad) (k:=i*4) (L:=rj L hd) (m:=uP L[i] (hd i)) (.fact fun w hw=>had ▸ hw.1) (by simp) (vT L hd (by omega)) rfl ?_)
   conv=>whnf
   repeat (refine aa.of ?_;conv=>whnf)
   intro b3
   have hbang:L[i]! = L[i]:=by simp[hn,hlt']
   have hls:l.length≤200:=by rw[hl];exact hsm i (by omega)
   have hlo:=hho i (by omega)
   have hhi:=hhd i hlt'
   rw[hbang] at hlo hhi
   obtain⟨x,hx⟩ : ∃ x,L[i]=x:=⟨_,rfl⟩
   obtain⟨hx',hhx⟩ : ∃ h,hd i=h:=⟨_,rfl⟩
   rw[hx] at hlo hhi
   rw[hhx] at hhi
   rw[hx,hhx]
   conv=>whnf
   repeat (refine aa.of ?_;conv=>whnf)
   refine aw.bJ (F':=⟨fun w=>af w (some aL) (rj L hd)∧∀ j,j<n→af w (hd j).a (L[j]!.l.map bo),[]++bn a C ++ []⟩) (ao.refl _) ?_
   refine xZ (x0:=(b0,0)) (x1:=(b1,0)) (x2:=(b3,0)) (c0:=[.int .i64 0,.slice none 0 0]) (c2:=uP x hx') (r1:=[]) l hO (by omega) 0 0 (w7 x) fun a1 cap1 C1 hO1=>?_
   conv=>whnf
   repeat (refine aa.of ?_;conv=>whnf)
   obtain⟨l1,hl1⟩ : ∃ l1,l1=rm l 0 0 (w7 x):=⟨_,rfl⟩
   have hl1n:l1.length=l.length+1:=by rw[hl1,fM]
   rw[← hl1] at hO1
   have hrow : ∀ w,(af w (some aL) (rj L hd)∧∀ j,j<n→af w (hd j).a (L[j]!.l.map bo))→af w hx'.a (x.l.map bo):=fun w hw=>by
    have:=hw.2 i hlt'
    rwa [hbang,hx,hhx] at this
   refine az.loop ae (ι:=Nat×List Cp×Option Addr×Nat×List Value) ([6,20]++List.range' 21 9) (fun y=>y.1≤x.l.length∧y.2.1=iQ (w7 x) ((l.length+1:Nat):Int) l1 (x.l.take y.1)∧Sx.cE 6 y.2.1.length y.2.2.1 y.2.2.2.1 y.2.2.2.2 (y.2.1.flatMap bB))
    (fun y=>[(20,.v (.int .i64 (y.1:Int)))]) (fun y=>[[.int .i64 0,.slice none 0 0],[.int .i64 ((y.2.1.length+1:Nat):Int),.slice y.2.2.1 y.2.1.length y.2.2.2.1],uP x hx']) (fun y=>⟨fun w=>af w (some aL) (rj L hd)∧∀ j,j<n→af w (hd j).a (L[j]!.l.map bo),[]++bn y.2.2.1 y.2.2.2.2 ++ []⟩)
    (fun y=>x.l.length - y.1) (0,l1,a1,cap1,C1) ⟨Nat.zero_le _,by simp[iQ],by dsimp only;rw[hl1n];exact hO1⟩ ?_ (by dsimp only;rw[hl1n]) (ao.refl _) fun y hy=>?_
   · conv=>whnf
     repeat (first | exact ax.nil | refine ax.any ?_ | refine ax.cons ?_)
   obtain⟨j,l2,a2,cap2,C2⟩:=y
   obtain⟨hj,hl2,hO2⟩:=hy
   dsimp only at hj hl2 hO2 ⊢
   have hl2n:l2.length=l.length+1+j:=by
    rw[hl2,nN,hl1n,List.length_take]
    omega
   conv=>whnf
   repeat (refine aa.of ?_;conv=>whnf)
   refine bV.split (fun hjt=>?_) (fun hjt=>?_)
   · have hjt':j<x.l.length:=by
      simp[au] at hjt
      omega
     conv=>whnf
     repeat (refine aa.of ?_;conv=>whnf)
     refine ar.aj (ak.index ae rfl rfl rfl (by omega) (by omega) hhi.nil fun ad had=>?_)
     conv=>whnf
     repeat (refine aa.of ?_;conv=>whnf)
     refine ar.aj (ak.load ae rfl rfl (ad:=ad) (k:=j) (L:=x.l.map bo) (v:=.int .i64 x.l[j]) (.fact fun w hw=>had ▸ hrow w hw) (by simp) (by rw[List.getElem?_map,List.getElem?_eq_getElem hjt'];rfl) ?_)
     conv=>whnf
     repeat (refine aa.of ?_;conv=>whnf)
     refine xZ (x0:=(b0,0)) (x1:=(b1,0)) (x2:=(b3,0)) (c0:=[.int .i64 0,.slice none 0 0]) (c2:=uP x hx') (r1:=[]) l2 hO2 (by omega) ((l.length+1:Nat):Int) x.l[j] (w7 x) fun a3 cap3 C3 hO3=>?_
     conv=>whnf
     repeat (refine aa.of ?_;conv=>whnf)
     refine⟨(j+1,rm l2 ((l.length+1:Nat):Int) x.l[j] (w7 x),a3,cap3,C3),⟨⟨hjt',by dsimp only;rw[rZ _ _ _ _ hjt',← hl2],by dsimp only;rw[fM];exact hO3⟩,by dsimp only;omega⟩,?_,?_,ao.refl _⟩
     · conv=>whnf
       refine⟨?_,rfl⟩
       repeat (first | exact ax.nil | refine ax.any ?_ | refine ax.cons ?_ | refine ax.eq (by rw[wrap_i64 (by omega)];rfl) ?_)
     · dsimp only
       rw[fM]
       conv=>whnf
       exact⟨⟨rfl,rfl⟩,⟨rfl,rfl⟩,⟨rfl,rfl⟩,trivial⟩
   · have hje:j=x.l.length:=by
      simp[au] at hjt
      omega
     subst hje
     rw[List.take_length] at hl2
     have hnext:l2=en (L.take (i+1)):=by
      rw[sQ L (by omega),hx,← hl,hl2,hl1]
      rfl
     conv=>whnf
     repeat (refine aa.of ?_;conv=>whnf)
     refine⟨(i+1,l2,a2,cap2,C2),⟨⟨hlt',hnext,hO2⟩,by dsimp only;omega⟩,?_,?_,ao.refl _⟩
     · conv=>whnf
       refine⟨?_,rfl⟩
       repeat (first | exact ax.nil | refine ax.any ?_ | refine ax.cons ?_ | refine ax.eq (by rw[wrap_i64 (by omega)];rfl) ?_)
     · conv=>whnf
       exact⟨⟨rfl,rfl⟩,⟨rfl,rfl⟩,trivial⟩
 · have hie:i=n:=by
    simp[au] at hlt
    omega
   subst hie
   rw[← hn,List.take_length] at hl
   subst hl
   conv=>whnf
   repeat (refine aa.of ?_;conv=>whnf)
   refine aw.bJ (F':=⟨fun w=>af w a ((en L).flatMap bB),[]⟩) ?_ ?_
   · exact ao.trans (hO.share (r1:=[]) (r2:=[])) (ao.imp fun w hw=>hw.2)
   conv=>whnf
   repeat (refine aa.of ?_;conv=>whnf)
   refine aw.pure (hEL ⟨a,cap⟩ ⟨hO.cm,hO.fit⟩) (fun w hw=>hw) (fun v D hv=>?_)
   obtain⟨k,hk,rfl,rfl⟩:=hv
   conv=>whnf
   repeat (refine aa.of ?_;conv=>whnf)
   exact⟨⟨fun w=>af w k.a (entT.flatMap bB),[]⟩,ao.of_le ⟨by simp[Fx.and],fun w hw=>hw.2⟩,k,hk,rfl,rfl⟩
def isRoot (c:Cp):Bool:=bG c.parent 0&&bG c.r.ty 1&&bG c.r.code 1
def bZ (l:List Cp):List Cp:=l.filter isRoot
def gC (l:List Cp) (rs:List Cp):List Cp:=rs.foldl (fun s c=>rm s c.id 16 c.r) l
theorem uu (l:List Cp) (rs:List Cp) {j:Nat} (hj:j<rs.length):gC l (rs.take (j+1))=rm (gC l (rs.take j)) rs[j].id 16 rs[j].r:=by
 unfold gC
 rw[List.take_succ_eq_append_getElem hj,List.foldl_append]
 rfl
theorem mD : ∀ (rs l:List Cp),(gC l rs).length=l.length+rs.length
 | [],l=>rfl
 | c::rs,l=>by
  show(gC (rm l c.id 16 c.r) rs).length=_
  rw[mD rs,fM,List.length_cons]
  omega
theorem rV (l:List Cp) {i:Nat} (hi:i<l.length):bZ (l.take (i+1))=bZ (l.take i)++(if isRoot l[i] then [l[i]] else []):=by
 unfold bZ
 rw[List.take_succ_eq_append_getElem hi,List.filter_append]
 congr 1
 cases h:isRoot l[i]<;>simp[h]
theorem pB (x:Cp) (b2 b3:Nat) (nx:Int) (l:List Cp) (h:Hd) (hh:h.Ok l.length) (hl:l.length≤140737488355328):ah Tryz.prog 143 [.agg ⟨bB x⟩,.pointer (some ⟨b2,0,none⟩),.pointer (some ⟨b3,0,none⟩)]
 (fun w=>(af w (some ⟨b2,0,none⟩) [.int .i64 nx,h.v l.length]∧af w (some ⟨b3,0,none⟩) [.int .i64 16])∧af w h.a (l.flatMap bB)) (fun v F=>v = .bool (eQ l 16 x.r)):=by
 have h1:=iZ nx l h hh hl 16 x.r
 generalize eQ l 16 x.r=q1 at *
 refine ah.aK ae Tryz.func143 rfl (by decide) (n:=Tryz.f143.ntmps - 3) rfl rfl fun w0 av=>?_
 conv=>whnf
 repeat (refine aa.of ?_;conv=>whnf)
 intro b4
 conv=>whnf
 repeat (refine aa.of ?_;conv=>whnf)
 refine ar.aj (ak.aT ae rfl rfl (ad:=⟨b2,0,none⟩) (k:=0) (L:=[.int .i64 nx,h.v l.length]) (m:=[.int .i64 nx,h.v l.length]) (.fact fun w hw=>hw.1.1) rfl rfl rfl ?_)
 conv=>whnf
 repeat (refine aa.of ?_;conv=>whnf)
 refine ar.aj (ak.aG ae rfl rfl (ad:=⟨b3,0,none⟩) (k:=0) (L:=[.int .i64 16]) (v:=.int .i64 16) (.fact fun w hw=>hw.1.2) (fun _=>rfl) rfl ?_)
 conv=>whnf
 repeat (refine aa.of ?_;conv=>whnf)
 refine aw.val h1 (fun w hw=>hw.2) (fun v D hv=>?_)
 subst hv
 conv=>whnf
 repeat (refine aa.of ?_;conv=>whnf)
 exact⟨_,ao.refl _,rfl⟩
theorem m9 (a:Addr) (n c:Nat) (M:List Value) (hM:M.length=n*6) (hn0:0<n) (hn:n≤1000000):ah Tryz.prog 34 [.slice (some a) n c] (fun w=>af w (some a) M)
 (fun v F=>∃ b cap C,Sx.cE 6 n (some ⟨b,0,none⟩) cap C M∧v = .slice (some ⟨b,0,none⟩) n cap∧F=⟨fun _=>True,[(b,Row.c C)]⟩):=by
 refine ah.aK ae Tryz.func34 rfl (by decide) (n:=Tryz.f34.ntmps - 1) rfl rfl fun w0 av=>?_
 conv=>whnf
 repeat (refine aa.of ?_;conv=>whnf)
 refine ar.aj (ak.dI ae (t:=82) rfl rfl ?_)
 conv=>whnf
 repeat (refine aa.of ?_;conv=>whnf)
 refine ar.build ae (t:=82) rfl rfl rfl [] rfl rfl (by simp) (by decide) fun b0=>?_
 conv=>whnf
 repeat (refine aa.of ?_;conv=>whnf)
 refine ar.bJ (F':=⟨fun w=>af w (some a) M,[]⟩) (ao.of_le ⟨by simp,fun w hw=>hw⟩) ?_
 refine ar.jP ae rfl rfl rfl rfl rfl rfl (L:=[]) (M:=M) (fun w _=>af.sY _) (by simp) (.fact fun w hw=>hw) hM (by omega) (by omega) (by show(2*(0+n)+1000)*48≤2 ^ 48;omega) fun b cap C hO=>?_
 conv=>whnf
 repeat (refine aa.of ?_;conv=>whnf)
 rw[Nat.zero_add,List.nil_append] at hO
 rw[Nat.zero_add]
 exact⟨⟨fun _=>True,[(b,Row.c C)]⟩,ao.of_le ⟨by simp,fun w hw=>trivial⟩,b,cap,C,hO,rfl,rfl⟩
theorem r5 (l:List Cp) (hl:l.length≤300) (hv:(allI l.length (fc ((l.length+1:Nat):Int) l)&&decide (l.length≤400∧1≤((l.length+1:Nat):Int)∧((l.length+1:Nat):Int)≤1099511627776))=true)
 (hr0:0<(bZ l).length) (hr:(bZ l).length≤50) (hno:((bZ l).any fun c=>eQ l 16 c.r)=false) (h:Hd) (hh:h.Ok l.length) (hh0:0<l.length) :
 ah Tryz.prog 78 [.agg ⟨[.int .i64 ((l.length+1:Nat):Int),h.v l.length]⟩,.int .i64 16] (fun w=>af w h.a (l.flatMap bB))
  (fun v F=>∃ k:Hd,k.Ok (gC l (bZ l)).length∧v = .tuple ⟨[.agg ⟨[.int .i64 (((gC l (bZ l)).length+1:Nat):Int),k.v (gC l (bZ l)).length]⟩,.int .i64 0]⟩∧F=⟨fun w=>af w k.a ((gC l (bZ l)).flatMap bB),[]⟩):=by
 have h1:=gA ((l.length+1:Nat):Int) l h hh (by omega)
 rw[hv] at h1
 obtain⟨ha,hc⟩:=h
 rcases ha with _ | ha
 · have:=hh.nil rfl
   omega
 have hhc:l.length≤hc:=hh.cap
 refine ah.aK ae Tryz.func78 rfl (by decide) (n:=Tryz.f78.ntmps - 2) rfl rfl fun w0 av=>?_
 conv=>whnf
 repeat (refine aa.of ?_;conv=>whnf)
 intro b2
 conv=>whnf
 repeat (refine aa.of ?_;conv=>whnf)
 intro b3
 conv=>whnf
 repeat (refine aa.of ?_;conv=>whnf)
 intro b4
 conv=>whnf
 repeat (refine aa.of ?_;conv=>whnf)
 refine aw.val h1 (fun w hw=>hw) (fun v D hv=>?_)
 subst hv
 conv=>whnf
 repeat (refine aa.of ?_;conv=>whnf)
 refine bV.no (by simp[au,aJ]) ?_
 conv=>whnf
 repeat (refine aa.of ?_;conv=>whnf)
 refine az.loop ae (ι:=Nat×Option Addr×Nat×List Value) ([6,8,25]++List.range' 26 23) (fun x=>x.1≤l.length∧Sx.cE 6 (bZ (l.take x.1)).length x.2.1 x.2.2.1 x.2.2.2 ((bZ (l.take x.1)).flatMap bB))
  (fun x=>[(25,.v (.int .i64 (x.1:Int))),(6,.v (.slice x.2.1 (bZ (l.take x.1)).length x.2.2.1))]) (fun x=>[[.int .i64 ((l.length+1:Nat):Int),.slice (some ha) l.length hc],[.int .i64 16],[.int .i64 0,.slice none 0 0]]) (fun x=>⟨fun w=>af w (some ha) (l.flatMap bB),[]++bn x.2.1 x.2.2.2 ++ []⟩)
  (fun x=>l.length - x.1) (0,none,0,[]) ⟨Nat.zero_le _,Sx.cE.nil 6⟩ ?_ rfl (ao.refl _) fun x hx=>?_
 · conv=>whnf
   repeat (first | exact ax.nil | refine ax.any ?_ | refine ax.cons ?_)
 obtain⟨i,a,cap,C⟩:=x
 obtain⟨hi,hO⟩:=hx
 dsimp only at hi hO ⊢
 conv=>whnf
 repeat (refine aa.of ?_;conv=>whnf)
 refine bV.split (fun hlt=>?_) (fun hlt=>?_)
 · have hlt':i<l.length:=by
    simp[au] at hlt
    omega
   have hrn:=rV l hlt'
   have hrl:(bZ (l.take i)).length≤300:=by
    have:=List.length_filter_le isRoot (l.take i)
    rw[List.length_take] at this
    unfold bZ
    omega
   conv=>whnf
   repeat (refine aa.of ?_;conv=>whnf)
   refine ar.aj (ak.index ae rfl rfl rfl (by omega) (by omega) (fun h=>by cases h) fun ad had=>?_)
   conv=>whnf
   repeat (refine aa.of ?_;conv=>whnf)
   refine ar.aj (ak.aT ae rfl rfl (ad:=ad) (k:=i*6) (L:=l.flatMap bB) (m:=bB l[i]) (.fact fun w hw=>had ▸ hw) (by simp) (by exact bj (cf:=bB) (z:=6) (fun _=>rfl) hlt') rfl ?_)
   conv=>whnf
   repeat (refine aa.of ?_;conv=>whnf)
   intro b8
   obtain⟨x,hx⟩ : ∃ x,l[i]=x:=⟨_,rfl⟩
   rw[hx] at hrn ⊢
   conv=>whnf
   repeat (refine aa.of ?_;conv=>whnf)
   obtain⟨q,hq⟩ : ∃ q,isRoot x=q:=⟨_,rfl⟩
   have hq':(bG x.parent 0&&bG x.r.ty 1&&bG x.r.code 1)=q:=hq
   rw[hq']
   rw[hq] at hrn
   cases q
   · conv=>whnf
     repeat (refine aa.of ?_;conv=>whnf)
     refine⟨(i+1,a,cap,C),⟨⟨hlt',?_⟩,by dsimp only;omega⟩,?_,?_,ao.refl _⟩
     · dsimp only
       rw[hrn]
       simpa using hO
     · dsimp only
       rw[hrn]
       simp only[Bool.false_eq_true,if_false,List.append_nil]
       conv=>whnf
       refine⟨?_,rfl⟩
       repeat (first | exact ax.nil | refine ax.any ?_ | refine ax.cons ?_ | refine ax.eq (by rw[wrap_i64 (by omega)];rfl) ?_)
     · conv=>whnf
       exact⟨⟨rfl,rfl⟩,⟨rfl,rfl⟩,⟨rfl,rfl⟩,trivial⟩
   · conv=>whnf
     repeat (refine aa.of ?_;conv=>whnf)
     refine ar.build ae rfl rfl rfl [.agg ⟨bB x⟩] rfl rfl (by simp[Value.cells,bB]) (by decide) fun b5=>?_
     conv=>whnf
     repeat (refine aa.of ?_;conv=>whnf)
     refine ar.bJ (F':=⟨fun w=>af w (some ha) (l.flatMap bB),[]++bn a C ++ [(b5,Row.c (bB x))]⟩) (ao.of_le ⟨by simp[Value.cells],fun w hw=>hw⟩) ?_
     refine ar.dZ ae rfl rfl rfl rfl rfl rfl (M:=bB x) hO (aF.row (by simp)) rfl (List.all_eq_true.1 (by rfl)) (by omega) (by show((bZ (l.take i)).length+(bZ (l.take i)).length/4+600)*48≤2 ^ 48;omega) fun a' c' C' hO'=>?_
     conv=>whnf
     repeat (refine aa.of ?_;conv=>whnf)
     have hrn2:bZ (l.take (i+1))=bZ (l.take i) ++ [x]:=by rw[hrn];simp
     have hrn3:(bZ (l.take (i+1))).length=(bZ (l.take i)).length+1:=by rw[hrn2];simp
     refine⟨(i+1,a',c',C'),⟨⟨hlt',?_⟩,by dsimp only;omega⟩,?_,?_,ao.of_le ⟨by simp,fun w hw=>hw⟩⟩
     · dsimp only
       rw[hrn3,hrn2,List.flatMap_append]
       simpa using hO'
     · dsimp only
       rw[hrn3]
       conv=>whnf
       refine⟨?_,rfl⟩
       repeat (first | exact ax.nil | refine ax.any ?_ | refine ax.cons ?_ | refine ax.eq (by rw[wrap_i64 (by omega)];rfl) ?_)
     · conv=>whnf
       exact⟨⟨rfl,rfl⟩,⟨rfl,rfl⟩,⟨rfl,rfl⟩,trivial⟩
 · have hie:i=l.length:=by
    simp[au] at hlt
    omega
   subst hie
   rw[List.take_length] at hO ⊢
   obtain⟨rs,hrs⟩ : ∃ rs,bZ l=rs:=⟨_,rfl⟩
   rw[hrs] at hr0 hr hno hO ⊢
   have hch:=tD bB (fun _=>rfl) 143 (fun w=>(af w (some ⟨b2,0,none⟩) [.int .i64 ((l.length+1:Nat):Int),.slice (some ha) l.length hc]∧af w (some ⟨b3,0,none⟩) [.int .i64 16])∧af w (some ha) (l.flatMap bB)) (fun c=>eQ l 16 c.r) (.pointer (some ⟨b2,0,none⟩)) (.pointer (some ⟨b3,0,none⟩)) rs ⟨a,cap⟩ ⟨hO.cm,hO.fit⟩ (by omega) (fun e _=>pB e b2 b3 _ l ⟨some ha,hc⟩ hh (by omega))
   rw[hno] at hch
   conv=>whnf
   repeat (refine aa.of ?_;conv=>whnf)
   refine aw.bJ (F':=⟨fun w=>af w (some ha) (l.flatMap bB)∧af w a (rs.flatMap bB),[]⟩) ?_ ?_
   · exact ao.trans (hO.share (r1:=[]) (r2:=[])) (ao.imp fun w hw=>hw)
   refine aw.look hch ((Loc.row _ _).and (((Loc.row _ _).and (Loc.row _ _)).and (Loc.row _ _))) (fun w hst=>⟨hst.now.2,⟨aF.box 0 rfl (by simp) rfl w hst,aF.box 1 rfl (by simp) rfl w hst⟩,hst.now.1⟩) ?_
   conv=>whnf
   repeat (refine aa.of ?_;conv=>whnf)
   refine bV.no (by rw[wrap_i64 (by omega)];simp[aI];omega) ?_
   conv=>whnf
   repeat (refine aa.of ?_;conv=>whnf)
   refine bV.yes (by simp[aI];omega) ?_
   conv=>whnf
   repeat (refine aa.of ?_;conv=>whnf)
   refine bV.no (by rw[wrap_i64 (by omega)];simp[aI];omega) ?_
   conv=>whnf
   repeat (refine aa.of ?_;conv=>whnf)
   have hM:(l.flatMap bB).length=l.length*6:=by rw[iB (z:=6) (fun _=>rfl)]
   refine aw.pure (m9 ha l.length hc (l.flatMap bB) hM hh0 (by omega)) (fun w hw=>hw.1) (fun v D hv=>?_)
   obtain⟨bk,capk,Ck,hOk,rfl,rfl⟩:=hv
   conv=>whnf
   repeat (refine aa.of ?_;conv=>whnf)
   refine az.loop ae (ι:=Nat×Option Addr×Nat×List Value) ([10,82]++List.range' 83 10) (fun x=>x.1≤rs.length∧Sx.cE 6 (gC l (rs.take x.1)).length x.2.1 x.2.2.1 x.2.2.2 ((gC l (rs.take x.1)).flatMap bB))
    (fun x=>[(82,.v (.int .i64 (x.1:Int)))]) (fun x=>[[.int .i64 (((gC l (rs.take x.1)).length+1:Nat):Int),.slice x.2.1 (gC l (rs.take x.1)).length x.2.2.1],[.int .i64 16],[.int .i64 0,.slice none 0 0]]) (fun x=>⟨fun w=>af w a (rs.flatMap bB),[]++bn x.2.1 x.2.2.2 ++ []⟩)
    (fun x=>rs.length - x.1) (0,some ⟨bk,0,none⟩,capk,Ck) ⟨Nat.zero_le _,hOk⟩ ?_ rfl (ao.of_le ⟨by simp[bn,Fx.and],fun w hw=>hw.1.2⟩) fun x hx=>?_
   · conv=>whnf
     repeat (first | exact ax.nil | refine ax.any ?_ | refine ax.cons ?_)
   obtain⟨j,a2,cap2,C2⟩:=x
   obtain⟨hj,hO2⟩:=hx
   dsimp only at hj hO2 ⊢
   have hl2:(gC l (rs.take j)).length=l.length+j:=by
    rw[mD,List.length_take]
    omega
   conv=>whnf
   repeat (refine aa.of ?_;conv=>whnf)
   refine bV.split (fun hjt=>?_) (fun hjt=>?_)
   · have hjt':j<rs.length:=by
      simp[au] at hjt
      omega
     have hen:=uu l rs hjt'
     conv=>whnf
     repeat (refine aa.of ?_;conv=>whnf)
     refine ar.aj (ak.index ae rfl rfl rfl (by omega) (by omega) hO.cm fun ad had=>?_)
     conv=>whnf
     repeat (refine aa.of ?_;conv=>whnf)
     refine ar.aj (ak.aT ae rfl rfl (ad:=ad) (k:=j*6) (L:=rs.flatMap bB) (m:=bB rs[j]) (.fact fun w hw=>had ▸ hw) (by simp) (by exact bj (cf:=bB) (z:=6) (fun _=>rfl) hjt') rfl ?_)
     conv=>whnf
     repeat (refine aa.of ?_;conv=>whnf)
     intro b10
     obtain⟨x,hx⟩ : ∃ x,rs[j]=x:=⟨_,rfl⟩
     rw[hx] at hen ⊢
     obtain⟨l2,hl2e⟩ : ∃ l2,gC l (rs.take j)=l2:=⟨_,rfl⟩
     rw[hl2e] at hen hO2 hl2 ⊢
     conv=>whnf
     repeat (refine aa.of ?_;conv=>whnf)
     refine zv (x0:=(b2,0)) (x1:=(b3,0)) (x2:=(b4,0)) (x3:=(b10,0)) (c1:=[.int .i64 16]) (c2:=[.int .i64 0,.slice none 0 0]) (c3:=bB x) (r1:=[]) l2 hO2 (by omega) x.id 16 x.r fun a3 cap3 C3 hO3=>?_
     conv=>whnf
     repeat (refine aa.of ?_;conv=>whnf)
     refine⟨(j+1,a3,cap3,C3),⟨⟨hjt',?_⟩,by dsimp only;omega⟩,?_,?_,ao.refl _⟩
     · dsimp only
       rw[hen,fM]
       exact hO3
     · conv=>whnf
       refine⟨?_,rfl⟩
       repeat (first | exact ax.nil | refine ax.any ?_ | refine ax.cons ?_ | refine ax.eq (by rw[wrap_i64 (by omega)];rfl) ?_)
     · dsimp only
       rw[hen,fM]
       conv=>whnf
       exact⟨⟨rfl,rfl⟩,⟨rfl,rfl⟩,⟨rfl,rfl⟩,trivial⟩
   · have hje:j=rs.length:=by
      simp[au] at hjt
      omega
     subst hje
     rw[List.take_length] at hO2 ⊢
     conv=>whnf
     repeat (refine aa.of ?_;conv=>whnf)
     refine⟨⟨fun w=>af w a2 ((gC l rs).flatMap bB),[]⟩,ao.trans (hO2.share (r1:=[]) (r2:=[])) (ao.imp fun w hw=>hw.2),⟨a2,cap2⟩,⟨hO2.cm,hO2.fit⟩,rfl,rfl⟩
def fu:List Cp:=en bq
def dG:List Cp:=gC fu (bZ fu)
theorem jZ:fu.length=163:=by decide +kernel
theorem iK:(bZ fu).length=4:=by decide +kernel
theorem vw:(allI fu.length (fc ((fu.length+1:Nat):Int) fu)&&decide (fu.length≤400∧1≤((fu.length+1:Nat):Int)∧((fu.length+1:Nat):Int)≤1099511627776))=true:=by decide +kernel
theorem vd:((bZ fu).any fun c=>eQ fu 16 c.r)=false:=by decide +kernel
theorem nA:dG.length=167:=by
 unfold dG
 rw[mD,jZ,iK]
theorem sM:ah Tryz.prog 28 [] (fun _=>True) (fun v F=>∃ h:Hd,h.Ok dG.length∧v = .agg ⟨[.int .i64 ((dG.length+1:Nat):Int),h.v dG.length]⟩∧F=⟨fun w=>af w h.a (dG.flatMap bB),[]⟩):=
 tY dG fun h hh=>r5 fu (by rw[jZ];decide) vw (by rw[iK];decide) (by rw[iK];decide) vd h hh (by rw[jZ];decide)
theorem eK (x:qR):ah Tryz.prog 46 [.agg ⟨cF x⟩] (fun _=>True) (fun v F=>∃ q,v = .bool q):=by
 refine ah.aK ae Tryz.func46 rfl (by decide) (n:=Tryz.f46.ntmps - 1) rfl rfl fun w0 av=>?_
 conv=>whnf
 repeat (refine aa.of ?_;conv=>whnf)
 intro b1
 conv=>whnf
 repeat (refine aa.of ?_;conv=>whnf)
 repeat' (first
  | (refine And.intro ?_ ?_<;>conv=>whnf)
  | (refine an.same rfl ?_;conv=>whnf)
  | (refine an.row rfl ?_;conv=>whnf)
  | (refine an.call rfl ?_;conv=>whnf)
  | (refine aS.of ?_;conv=>whnf)
  | (refine aa.of ?_;conv=>whnf)
  | (split<;>conv=>whnf)
  | (refine an.mk ?_ ?_;(focus (first | exact ao.refl _ | exact ao.left _ _ | exact ao.of_le ⟨List.sublist_append_left _ _,fun w h=>h⟩ | exact ao.of_le ⟨List.Sublist.refl _,fun w h=>h.1⟩));conv=>whnf))
 all_goals exact⟨_,ao.refl _,_,rfl⟩
theorem sI (l:List Bs) (h:Hd) (hh:h.Ok l.length) (hl:l.length≤140737488355328) :
 ah Tryz.prog 17 [.agg ⟨[h.v l.length]⟩] (fun w=>af w h.a (l.map dg)) (fun v F=>∃ q,v = .bool q):=by
 refine ah.aK ae Tryz.func17 rfl (by decide) (n:=Tryz.f17.ntmps - 1) rfl rfl fun w0 av=>?_
 conv=>whnf
 repeat (refine aa.of ?_;conv=>whnf)
 intro b1
 conv=>whnf
 repeat (refine aa.of ?_;conv=>whnf)
 refine az.loop ae (ι:=Nat) (List.range' 3 15) (fun x=>x≤l.length) (fun x=>[(3,.v (.int .i64 (x:Int)))]) (fun _=>[[h.v l.length]]) (fun _=>⟨fun w=>af w h.a (l.map dg),[]⟩) (fun x=>l.length - x) 0 (Nat.zero_le _) ?_ rfl (ao.refl _) fun i hi=>?_
 · conv=>whnf
   repeat (first | exact ax.nil | refine ax.any ?_ | refine ax.cons ?_)
 conv=>whnf
 repeat (refine aa.of ?_;conv=>whnf)
 refine bV.split (fun hlt=>?_) (fun hlt=>?_)
 · have hlt':i<l.length:=by
    simp only[au,decide_eq_true_eq] at hlt
    omega
   repeat' (first
    | (refine And.intro ?_ ?_<;>conv=>whnf)
    | (refine an.same rfl ?_;conv=>whnf)
    | (refine an.row rfl ?_;conv=>whnf)
    | (refine an.call rfl ?_;conv=>whnf)
    | (refine aS.of ?_;conv=>whnf)
    | (refine aa.of ?_;conv=>whnf)
    | (refine ar.aj (ak.index ae (t:=40) rfl rfl rfl (by omega) (by omega) hh.nil fun ad had=>?_);conv=>whnf)
    | (refine ar.aj (ak.aG ae rfl rfl (ad:=ad) (k:=i) (L:=l.map dg) (v:=dg l[i]) (.fact fun w hw=>had ▸ hw) (fun _=>by simp) (by rw[List.getElem?_map,List.getElem?_eq_getElem hlt'];rfl) ?_);conv=>whnf)
    | (split<;>conv=>whnf)
    | (refine an.mk ?_ ?_;(focus (first | exact ao.refl _ | exact ao.left _ _ | exact ao.of_le ⟨List.sublist_append_left _ _,fun w h=>h⟩ | exact ao.of_le ⟨List.Sublist.refl _,fun w h=>h.1⟩));conv=>whnf))
   all_goals first
    | (refine⟨_,ao.refl _,_,rfl⟩;done)
    | (
     refine⟨i+1,⟨hlt',by dsimp only;omega⟩,?_,?_,ao.refl _⟩;(conv=>whnf);refine⟨?_,rfl⟩;repeat (first | exact ax.nil | refine ax.any ?_ | refine ax.cons ?_ | refine ax.eq (by rw[wrap_i64 (by omega)];rfl) ?_)
     (conv=>whnf);exact⟨⟨rfl,rfl⟩,trivial⟩)
 · conv=>whnf
   repeat (refine aa.of ?_;conv=>whnf)
   exact⟨_,ao.refl _,_,rfl⟩
theorem rF (l:List Bs) (h:Hd) (hh:h.Ok l.length) (hl:l.length≤140737488355328) (x:qR) :
 ah Tryz.prog 18 [.agg ⟨h.v l.length::cF x⟩] (fun w=>af w h.a (l.map dg)) (fun v F=>∃ q,v = .bool q):=by
 refine ah.aK ae Tryz.func18 rfl (by decide) (n:=Tryz.f18.ntmps - 1) rfl rfl fun w0 av=>?_
 conv=>whnf
 repeat (refine aa.of ?_;conv=>whnf)
 intro b1
 conv=>whnf
 repeat (refine aa.of ?_;conv=>whnf)
 refine az.loop ae (ι:=Nat) (List.range' 3 15) (fun x=>x≤l.length) (fun x=>[(3,.v (.int .i64 (x:Int)))]) (fun _=>[h.v l.length::cF x]) (fun _=>⟨fun w=>af w h.a (l.map dg),[]⟩) (fun x=>l.length - x) 0 (Nat.zero_le _) ?_ rfl (ao.refl _) fun i hi=>?_
 · conv=>whnf
   repeat (first | exact ax.nil | refine ax.any ?_ | refine ax.cons ?_)
 conv=>whnf
 repeat (refine aa.of ?_;conv=>whnf)
 refine bV.split (fun hlt=>?_) (fun hlt=>?_)
 · have hlt':i<l.length:=by
    simp only[au,decide_eq_true_eq] at hlt
    omega
   repeat' (first
    | (refine And.intro ?_ ?_<;>conv=>whnf)
    | (refine an.same rfl ?_;conv=>whnf)
    | (refine an.row rfl ?_;conv=>whnf)
    | (refine an.call rfl ?_;conv=>whnf)
    | (refine aS.of ?_;conv=>whnf)
    | (refine aa.of ?_;conv=>whnf)
    | (refine ar.aj (ak.index ae (t:=40) rfl rfl rfl (by omega) (by omega) hh.nil fun ad had=>?_);conv=>whnf)
    | (refine ar.aj (ak.aG ae rfl rfl (ad:=ad) (k:=i) (L:=l.map dg) (v:=dg l[i]) (.fact fun w hw=>had ▸ hw) (fun _=>by simp) (by rw[List.getElem?_map,List.getElem?_eq_getElem hlt'];rfl) ?_);conv=>whnf)
    | (split<;>conv=>whnf)
    | (refine an.mk ?_ ?_;(focus (first | exact ao.refl _ | exact ao.left _ _ | exact ao.of_le ⟨List.sublist_append_left _ _,fun w h=>h⟩ | exact ao.of_le ⟨List.Sublist.refl _,fun w h=>h.1⟩));conv=>whnf))
   all_goals first
    | (refine⟨_,ao.refl _,_,rfl⟩;done)
    | (
     refine⟨i+1,⟨hlt',by dsimp only;omega⟩,?_,?_,ao.refl _⟩;(conv=>whnf);refine⟨?_,rfl⟩;repeat (first | exact ax.nil | refine ax.any ?_ | refine ax.cons ?_ | refine ax.eq (by rw[wrap_i64 (by omega)];rfl) ?_)
     (conv=>whnf);exact⟨⟨rfl,rfl⟩,trivial⟩)
 · have h1:=eK x
   conv=>whnf
   repeat (refine aa.of ?_;conv=>whnf)
   repeat' (first
    | (refine And.intro ?_ ?_<;>conv=>whnf)
    | (refine an.same rfl ?_;conv=>whnf)
    | (refine an.row rfl ?_;conv=>whnf)
    | (refine an.call rfl ?_;conv=>whnf)
    | (refine aS.of ?_;conv=>whnf)
    | (refine aa.of ?_;conv=>whnf)
    | (refine aw.val h1 (fun w hw=>trivial) (fun v D hv=>?_);obtain⟨q,rfl⟩:=hv;conv=>whnf)
    | (split<;>conv=>whnf)
    | (refine an.mk ?_ ?_;(focus (first | exact ao.refl _ | exact ao.left _ _ | exact ao.of_le ⟨List.sublist_append_left _ _,fun w h=>h⟩ | exact ao.of_le ⟨List.Sublist.refl _,fun w h=>h.1⟩));conv=>whnf))
   all_goals exact⟨_,ao.refl _,_,rfl⟩
theorem rB (m0 m1 m2 m3 m4:Bool) (l:List pU) (h:Hd) (hh:h.Ok l.length) (hl:l.length≤140737488355328) :
 ah Tryz.prog 21 [.agg ⟨[.bool m0,.bool m1,.bool m2,.bool m3,.bool m4,h.v l.length]⟩] (fun w=>af w h.a (l.flatMap cO)) (fun v F=>∃ q,v = .bool q∧(q=true→l.length≤40)):=by
 refine ah.aK ae Tryz.func21 rfl (by decide) (n:=Tryz.f21.ntmps - 1) rfl rfl fun w0 av=>?_
 conv=>whnf
 repeat (refine aa.of ?_;conv=>whnf)
 intro b1
 conv=>whnf
 repeat (refine aa.of ?_;conv=>whnf)
 refine az.loop ae (ι:=Nat) (List.range' 3 16) (fun x=>x≤l.length) (fun x=>[(3,.v (.int .i64 (x:Int)))]) (fun _=>[[.bool m0,.bool m1,.bool m2,.bool m3,.bool m4,h.v l.length]]) (fun _=>⟨fun w=>af w h.a (l.flatMap cO),[]⟩) (fun x=>l.length - x) 0 (Nat.zero_le _) ?_ rfl (ao.refl _) fun i hi=>?_
 · conv=>whnf
   repeat (first | exact ax.nil | refine ax.any ?_ | refine ax.cons ?_)
 conv=>whnf
 repeat (refine aa.of ?_;conv=>whnf)
 refine bV.split (fun hlt=>?_) (fun hlt=>?_)
 · have hlt':i<l.length:=by
    simp only[au,decide_eq_true_eq] at hlt
    omega
   repeat' (first
    | (refine And.intro ?_ ?_<;>conv=>whnf)
    | (refine an.same rfl ?_;conv=>whnf)
    | (refine an.row rfl ?_;conv=>whnf)
    | (refine an.call rfl ?_;conv=>whnf)
    | (refine aS.of ?_;conv=>whnf)
    | (refine aa.of ?_;conv=>whnf)
    | (refine ar.aj (ak.index ae (t:=67) rfl rfl rfl (by omega) (by omega) hh.nil fun ad had=>?_);conv=>whnf)
    | (refine ar.aj (ak.aG ae rfl rfl (ad:=ad) (k:=i*4+3) (L:=l.flatMap cO) (v:=dg l[i].data) (.fact fun w hw=>had ▸ hw) (fun hs=>by first | (rw[Addr.c_ hs];simp) | (simp[Addr.c_ hs])) (by rw[gp (z:=4) (fun _=>rfl) hlt' (by decide)];rfl) ?_);conv=>whnf)
    | (split<;>conv=>whnf)
    | (refine an.mk ?_ ?_;(focus (first | exact ao.refl _ | exact ao.left _ _ | exact ao.of_le ⟨List.sublist_append_left _ _,fun w h=>h⟩ | exact ao.of_le ⟨List.Sublist.refl _,fun w h=>h.1⟩));conv=>whnf))
   all_goals first
    | (refine⟨_,ao.refl _,_,rfl,fun h=>by cases h⟩;done)
    | (
     refine⟨i+1,⟨hlt',by dsimp only;omega⟩,?_,?_,ao.refl _⟩;(conv=>whnf);refine⟨?_,rfl⟩;repeat (first | exact ax.nil | refine ax.any ?_ | refine ax.cons ?_ | refine ax.eq (by rw[wrap_i64 (by omega)];rfl) ?_)
     (conv=>whnf);exact⟨⟨rfl,rfl⟩,trivial⟩)
 · conv=>whnf
   repeat (refine aa.of ?_;conv=>whnf)
   exact⟨_,ao.refl _,_,rfl,fun h=>by simp[aH] at h;omega⟩
theorem sJ (q:List Mg) (hq:Hd) (hh:hq.Ok q.length) (hl:q.length≤140737488355328) (pv:Value) (hpv : ∃ a n c,pv = .slice a n c):ah Tryz.prog 22 [.agg ⟨[hq.v q.length,pv]⟩] (fun w=>af w hq.a (q.flatMap nR)) (fun v F=>∃ q,v = .bool q):=by
 obtain⟨a,np,c,rfl⟩:=hpv
 refine ah.aK ae Tryz.func22 rfl (by decide) (n:=Tryz.f22.ntmps - 1) rfl rfl fun w0 av=>?_
 conv=>whnf
 repeat (refine aa.of ?_;conv=>whnf)
 intro b1
 conv=>whnf
 repeat (refine aa.of ?_;conv=>whnf)
 refine az.loop ae (ι:=Nat×Int) (List.range' 3 19) (fun x=>x.1≤q.length) (fun x=>[(3,.v (.int .i64 x.2)),(4,.v (.int .i64 (x.1:Int)))]) (fun _=>[[hq.v q.length,.slice a np c]]) (fun _=>⟨fun w=>af w hq.a (q.flatMap nR),[]⟩) (fun x=>q.length - x.1) (0,0) (Nat.zero_le _) ?_ rfl (ao.refl _) fun x hi=>?_
 · conv=>whnf
   repeat (first | exact ax.nil | refine ax.any ?_ | refine ax.cons ?_)
 obtain⟨i,n⟩:=x
 dsimp only at hi ⊢
 conv=>whnf
 repeat (refine aa.of ?_;conv=>whnf)
 refine bV.split (fun hlt=>?_) (fun hlt=>?_)
 · have hlt':i<q.length:=by
    simp only[au,decide_eq_true_eq] at hlt
    omega
   repeat' (first
    | (refine And.intro ?_ ?_<;>conv=>whnf)
    | (refine an.same rfl ?_;conv=>whnf)
    | (refine an.row rfl ?_;conv=>whnf)
    | (refine an.call rfl ?_;conv=>whnf)
    | (refine aS.of ?_;conv=>whnf)
    | (refine aa.of ?_;conv=>whnf)
    | (refine ar.aj (ak.index ae (t:=27) rfl rfl rfl (by omega) (by omega) hh.nil fun ad had=>?_);conv=>whnf)
    | (refine ar.aj (ak.aG ae rfl rfl (ad:=ad) (k:=i*9+8) (L:=q.flatMap nR) (v:=dg q[i].data) (.fact fun w hw=>had ▸ hw) (fun hs=>by first | (rw[Addr.c_ hs];simp) | (simp[Addr.c_ hs])) (by rw[gp (z:=9) (fun _=>rfl) hlt' (by decide)];rfl) ?_);conv=>whnf)
    | (refine an.mk ?_ ?_;(focus (first | exact ao.refl _ | exact ao.left _ _ | exact ao.of_le ⟨List.sublist_append_left _ _,fun w h=>h⟩ | exact ao.of_le ⟨List.Sublist.refl _,fun w h=>h.1⟩));conv=>whnf))
   refine⟨(i+1,IntKind.i64.wrap (n+IntKind.i64.wrap (10+(q[i].data.n:Int)))),⟨hlt',by dsimp only;omega⟩,?_,?_,ao.refl _⟩
   · conv=>whnf
     refine⟨?_,rfl⟩
     repeat (first | exact ax.nil | refine ax.any ?_ | refine ax.cons ?_ | refine ax.eq (by rw[wrap_i64 (by omega)];rfl) ?_)
   · conv=>whnf
     exact⟨⟨rfl,rfl⟩,trivial⟩
 · repeat' (first
    | (refine And.intro ?_ ?_<;>conv=>whnf)
    | (refine an.same rfl ?_;conv=>whnf)
    | (refine an.row rfl ?_;conv=>whnf)
    | (refine an.call rfl ?_;conv=>whnf)
    | (refine aS.of ?_;conv=>whnf)
    | (refine aa.of ?_;conv=>whnf)
    | (split<;>conv=>whnf)
    | (refine an.mk ?_ ?_;(focus (first | exact ao.refl _ | exact ao.left _ _ | exact ao.of_le ⟨List.sublist_append_left _ _,fun w h=>h⟩ | exact ao.of_le ⟨List.Sublist.refl _,fun w h=>h.1⟩));conv=>whnf))
   all_goals exact⟨_,ao.refl _,_,rfl⟩
theorem rE (x:xU):ah Tryz.prog 20 [.agg ⟨du x⟩] (fun _=>True) (fun v F=>∃ q,v = .bool q):=by
 have h1:=eK x.co
 have h2:=eK x.ci
 refine ah.aK ae Tryz.func20 rfl (by decide) (n:=Tryz.f20.ntmps - 1) rfl rfl fun w0 av=>?_
 conv=>whnf
 repeat (refine aa.of ?_;conv=>whnf)
 intro b1
 conv=>whnf
 repeat (refine aa.of ?_;conv=>whnf)
 repeat' (first
  | (refine And.intro ?_ ?_<;>conv=>whnf)
  | (refine an.same rfl ?_;conv=>whnf)
  | (refine an.row rfl ?_;conv=>whnf)
  | (refine an.call rfl ?_;conv=>whnf)
  | (refine aS.of ?_;conv=>whnf)
  | (refine aa.of ?_;conv=>whnf)
  | (refine aw.val h1 (fun w hw=>trivial) (fun v D hv=>?_);obtain⟨q,rfl⟩:=hv;conv=>whnf)
  | (refine aw.val h2 (fun w hw=>trivial) (fun v D hv=>?_);obtain⟨q,rfl⟩:=hv;conv=>whnf)
  | (split<;>conv=>whnf)
  | (refine an.mk ?_ ?_;(focus (first | exact ao.refl _ | exact ao.left _ _ | exact ao.of_le ⟨List.sublist_append_left _ _,fun w h=>h⟩ | exact ao.of_le ⟨List.Sublist.refl _,fun w h=>h.1⟩));conv=>whnf))
 all_goals exact⟨_,ao.refl _,_,rfl⟩
theorem rv (x:xN) (hh:x.fh.Ok x.fly.length) (hl:x.fly.length≤140737488355328) (hwh:x.wh.Ok x.wait.length) (hwl:x.wait.length≤140737488355328):ah Tryz.prog 19 [.agg ⟨di x⟩] (fun w=>af w x.fh.a (x.fly.flatMap bW)∧af w x.wh.a (x.wait.map dg)) (fun v F=>∃ q,v = .bool q):=by
 have h1:=eK x.co
 have h2:=eK x.ci
 refine ah.aK ae Tryz.func19 rfl (by decide) (n:=Tryz.f19.ntmps - 1) rfl rfl fun w0 av=>?_
 conv=>whnf
 repeat (refine aa.of ?_;conv=>whnf)
 intro b1
 conv=>whnf
 repeat (refine aa.of ?_;conv=>whnf)
 refine az.loop ae (ι:=Nat×Int) ([3,4]++List.range' 6 17) (fun y=>y.1≤x.fly.length) (fun y=>[(3,.v (.int .i64 y.2)),(4,.v (.int .i64 (y.1:Int)))]) (fun _=>[di x]) (fun _=>⟨fun w=>af w x.fh.a (x.fly.flatMap bW)∧af w x.wh.a (x.wait.map dg),[]⟩) (fun y=>x.fly.length - y.1) (0,0) (Nat.zero_le _) ?_ rfl (ao.refl _) fun y hi=>?_
 · conv=>whnf
   repeat (first | exact ax.nil | refine ax.any ?_ | refine ax.cons ?_)
 obtain⟨i,n⟩:=y
 dsimp only at hi ⊢
 conv=>whnf
 repeat (refine aa.of ?_;conv=>whnf)
 refine bV.split (fun hlt=>?_) (fun hlt=>?_)
 · have hlt':i<x.fly.length:=by
    simp only[au,decide_eq_true_eq] at hlt
    omega
   repeat' (first
    | (refine And.intro ?_ ?_<;>conv=>whnf)
    | (refine an.same rfl ?_;conv=>whnf)
    | (refine an.row rfl ?_;conv=>whnf)
    | (refine an.call rfl ?_;conv=>whnf)
    | (refine aS.of ?_;conv=>whnf)
    | (refine aa.of ?_;conv=>whnf)
    | (refine ar.aj (ak.index ae (t:=58) rfl rfl rfl (by omega) (by omega) hh.nil fun ad had=>?_);conv=>whnf)
    | (refine ar.aj (ak.aG ae rfl rfl (ad:=ad) (k:=i*2+1) (L:=x.fly.flatMap bW) (v:=dg x.fly[i].data) (.fact fun w hw=>had ▸ hw.1) (fun hs=>by first | (rw[Addr.c_ hs];simp) | (simp[Addr.c_ hs])) (by rw[gp (z:=2) (fun _=>rfl) hlt' (by decide)];rfl) ?_);conv=>whnf)
    | (refine an.mk ?_ ?_;(focus (first | exact ao.refl _ | exact ao.left _ _ | exact ao.of_le ⟨List.sublist_append_left _ _,fun w h=>h⟩ | exact ao.of_le ⟨List.Sublist.refl _,fun w h=>h.1⟩));conv=>whnf))
   refine⟨(i+1,IntKind.i64.wrap (n+IntKind.i64.wrap (10+(x.fly[i].data.n:Int)))),⟨hlt',by dsimp only;omega⟩,?_,?_,ao.refl _⟩
   · conv=>whnf
     refine⟨?_,rfl⟩
     repeat (first | exact ax.nil | refine ax.any ?_ | refine ax.cons ?_ | refine ax.eq (by rw[wrap_i64 (by omega)];rfl) ?_)
   · conv=>whnf
     exact⟨⟨rfl,rfl⟩,trivial⟩
 · conv=>whnf
   repeat (refine aa.of ?_;conv=>whnf)
   refine az.loop ae (ι:=Nat×Int) ([3,5]++List.range' 23 16) (fun y=>y.1≤x.wait.length) (fun y=>[(3,.v (.int .i64 y.2)),(5,.v (.int .i64 (y.1:Int)))]) (fun _=>[di x]) (fun _=>⟨fun w=>af w x.fh.a (x.fly.flatMap bW)∧af w x.wh.a (x.wait.map dg),[]⟩) (fun y=>x.wait.length - y.1) (0,n) (Nat.zero_le _) ?_ rfl (ao.refl _) fun y hi=>?_
   · conv=>whnf
     repeat (first | exact ax.nil | refine ax.any ?_ | refine ax.cons ?_)
   obtain⟨i,n⟩:=y
   dsimp only at hi ⊢
   conv=>whnf
   repeat (refine aa.of ?_;conv=>whnf)
   refine bV.split (fun hlt=>?_) (fun hlt=>?_)
   · have hlt':i<x.wait.length:=by
      simp only[au,decide_eq_true_eq] at hlt
      omega
     repeat' (first
      | (refine And.intro ?_ ?_<;>conv=>whnf)
      | (refine an.same rfl ?_;conv=>whnf)
      | (refine an.row rfl ?_;conv=>whnf)
      | (refine an.call rfl ?_;conv=>whnf)
      | (refine aS.of ?_;conv=>whnf)
      | (refine aa.of ?_;conv=>whnf)
      | (refine ar.aj (ak.index ae (t:=40) rfl rfl rfl (by omega) (by omega) hwh.nil fun ad had=>?_);conv=>whnf)
      | (refine ar.aj (ak.aG ae rfl rfl (ad:=ad) (k:=i) (L:=x.wait.map dg) (v:=dg x.wait[i]) (.fact fun w hw=>had ▸ hw.2) (fun _=>by simp) (by rw[List.getElem?_map,List.getElem?_eq_getElem hlt'];rfl) ?_);conv=>whnf)
      | (refine an.mk ?_ ?_;(focus (first | exact ao.refl _ | exact ao.left _ _ | exact ao.of_le ⟨List.sublist_append_left _ _,fun w h=>h⟩ | exact ao.of_le ⟨List.Sublist.refl _,fun w h=>h.1⟩));conv=>whnf))
     refine⟨(i+1,IntKind.i64.wrap (n+IntKind.i64.wrap (10+(x.wait[i].n:Int)))),⟨hlt',by dsimp only;omega⟩,?_,?_,ao.refl _⟩
     · conv=>whnf
       refine⟨?_,rfl⟩
       repeat (first | exact ax.nil | refine ax.any ?_ | refine ax.cons ?_ | refine ax.eq (by rw[wrap_i64 (by omega)];rfl) ?_)
     · conv=>whnf
       exact⟨⟨rfl,rfl⟩,trivial⟩
   · repeat' (first
      | (refine And.intro ?_ ?_<;>conv=>whnf)
      | (refine an.same rfl ?_;conv=>whnf)
      | (refine an.row rfl ?_;conv=>whnf)
      | (refine an.call rfl ?_;conv=>whnf)
      | (refine aS.of ?_;conv=>whnf)
      | (refine aa.of ?_;conv=>whnf)
      | (refine aw.val h1 (fun w hw=>trivial) (fun v D hv=>?_);obtain⟨q,rfl⟩:=hv;conv=>whnf)
      | (refine aw.val h2 (fun w hw=>trivial) (fun v D hv=>?_);obtain⟨q,rfl⟩:=hv;conv=>whnf)
      | (split<;>conv=>whnf)
      | (refine an.mk ?_ ?_;(focus (first | exact ao.refl _ | exact ao.left _ _ | exact ao.of_le ⟨List.sublist_append_left _ _,fun w h=>h⟩ | exact ao.of_le ⟨List.Sublist.refl _,fun w h=>h.1⟩));conv=>whnf))
     all_goals exact⟨_,ao.refl _,_,rfl⟩
def r9 (s:bH):Nat:=s.rc.l.length+s.ac.l.length+s.nw.l.length+s.qu.l.length+s.cp.l.length+s.gr.l.length+s.ti.l.length+s.wi.l.length+s.al.l.length+s.pr.l.length
def fY (s:bH):Nat→Nat
 | 0=>r9 s
 | i+1=>fY s i+((s.sp i).l.length+(s.T i).data.n/10)
theorem nO (s:bH) : ∀ i j,i≤j→fY s i≤fY s j:=by
 intro i j h
 induction h with
 | refl=>exact Nat.le_refl _
 | step _ ih=>exact Nat.le_trans ih (by rw[fY];omega)
theorem xx (s:bH) {i:Nat} (hi:i<32):(s.sp i).l.length≤fY s 32:=by
 have:=nO s (i+1) 32 (by omega)
 rw[fY] at this
 omega
theorem vh (s:bH):r9 s≤fY s 32:=nO s 0 32 (by omega)
theorem tz {a b:Nat} (h:a+b≤4611686018427387904):IntKind.i64.wrap ((a:Int)+(b:Int))=((a+b:Nat):Int):=by
 rw[wrap_i64 (by omega)]
 omega
theorem ta (s:bH) (h0:r9 s≤2000000000000000) (h1 : ∀ i,i<32→(s.sp i).l.length≤140737488355328) (h2 : ∀ i,i<32→(s.T i).data.n≤140737488355328) : ∀ i,i≤32→fY s i≤2000000000000000+i*281474976710656
 | 0,_=>by rw[fY];omega
 | i+1,h=>by
  have:=ta s h0 h1 h2 i (by omega)
  have:=h1 i (by omega)
  have:=h2 i (by omega)
  rw[fY]
  omega
theorem vU (s:bH) (i:Nat) (h:fY s i≤2000000000000000+i*281474976710656) (hd:(s.T i).data.n≤140737488355328) (hs:(s.sp i).l.length≤140737488355328) (hi:i<32) :
 IntKind.i64.wrap ((fY s i:Int)+IntKind.i64.wrap (((s.sp i).l.length:Int)+IntKind.i64.wrap (((s.T i).data.n:Int).tdiv (Int.ofNat (9+1)))))=((fY s (i+1):Nat):Int):=by
 have e:((s.T i).data.n:Int).tdiv (Int.ofNat (9+1))=(((s.T i).data.n/10:Nat):Int):=rfl
 have e2:IntKind.i64.wrap (((s.T i).data.n/10:Nat):Int)=(((s.T i).data.n/10:Nat):Int):=wrap_i64 (by omega)
 rw[e,e2,tz (by omega),tz (by omega)]
 rfl
theorem ve (s:bH) (ho:s.qI) (hd : ∀ i,i<32→(s.T i).data.n≤140737488355328):ah Tryz.prog 8 [.agg ⟨c8 s⟩] s.Rows (fun v F=>∃ q,v = .bool q∧(q=true→fY s 32≤3000∧s.pe.l.length≤40)):=by
 have h08:=sI s.pg.l s.pg.h ho.pg.h ho.pg.le
 have h11:=rF s.bk.l s.bk.h ho.bk.h ho.bk.le s.dc
 have h12:=rv s.lk ho.fh ho.fl ho.wh ho.wl
 have h13:=rE s.se
 have h15:=rB (s.M 0) (s.M 1) (s.M 2) (s.M 3) (s.M 4) s.pe.l s.pe.h ho.pe.h ho.pe.le
 have h20:=sJ s.q.l s.q.h ho.q.h ho.q.le s.pr.v ⟨_,_,_,rfl⟩
 have l1:=ho.pr.le
 have l2:=ho.cp.le
 have l3:=ho.gr.le
 have l4:=ho.ti.le
 have l5:=ho.qu.le
 have l6:=ho.wi.le
 have l7:=ho.al.le
 have l8:=ho.rc.le
 have l9:=ho.ac.le
 have l10:=ho.nw.le
 have hsl:r9 s≤2000000000000000:=by
  unfold r9
  omega
 have hsum:=ta s hsl (fun i hi=>(ho.sp i hi).le) hd
 obtain⟨E,hE⟩ : ∃ E,c8 s=E:=⟨_,rfl⟩
 have eT : ∀ i,i<32→(E.drop (i*8)).take 8=eX (s.T i):=fun i hi=>by rw[← hE];exact vW s i hi
 have eS : ∀ i,i<32→E[275+i]? = some (s.sp i).v:=fun i hi=>by rw[← hE];exact wq s i hi
 have eDk:(E.drop 308).take 10=s.bk.v::cF s.dc:=by rw[← hE];kernel_rfl
 have eLk:(E.drop 322).take 24=di s.lk:=by rw[← hE];kernel_rfl
 have eSe:(E.drop 346).take 23=du s.se:=by rw[← hE];kernel_rfl
 have eIq:(E.drop 371).take 6 = [.bool (s.M 0),.bool (s.M 1),.bool (s.M 2),.bool (s.M 3),.bool (s.M 4),s.pe.v]:=by rw[← hE];kernel_rfl
 have ePo:(E.drop 267).take 2 = [s.q.v,s.pr.v]:=by rw[← hE];kernel_rfl
 have ePg:(E.drop 274).take 1 = [s.pg.v]:=by rw[← hE];kernel_rfl
 have ePr:E[268]? = some (s.pr.v):=by rw[← hE];kernel_rfl
 have eCp:E[270]? = some (s.cp.v):=by rw[← hE];kernel_rfl
 have eGr:E[271]? = some (s.gr.v):=by rw[← hE];kernel_rfl
 have eTi:E[272]? = some (s.ti.v):=by rw[← hE];kernel_rfl
 have eQu:E[273]? = some (s.qu.v):=by rw[← hE];kernel_rfl
 have eWi:E[307]? = some (s.wi.v):=by rw[← hE];kernel_rfl
 have eAl:E[370]? = some (s.al.v):=by rw[← hE];kernel_rfl
 have eRc:E[377]? = some (s.rc.v):=by rw[← hE];kernel_rfl
 have eAc:E[378]? = some (s.ac.v):=by rw[← hE];kernel_rfl
 have eNw:E[379]? = some (s.nw.v):=by rw[← hE];kernel_rfl
 rw[hE]
 refine ah.aK ae Tryz.func8 rfl (by decide) (n:=Tryz.f8.ntmps - 1) rfl rfl fun w0 av=>?_
 conv=>whnf
 repeat (refine aa.of ?_;conv=>whnf)
 refine ar.cz fun br=>?_
 conv=>whnf
 repeat (refine aa.of ?_;conv=>whnf)
 repeat' (first
  | (refine And.intro ?_ ?_<;>conv=>whnf)
  | (refine an.same rfl ?_;conv=>whnf)
  | (refine an.row rfl ?_;conv=>whnf)
  | (refine an.call rfl ?_;conv=>whnf)
  | (refine aS.of ?_;conv=>whnf)
  | (refine aa.of ?_;conv=>whnf)
  | (refine ar.aj (ak.aG ae rfl rfl (ad:=⟨br,0,none⟩) (k:=377) (L:=E) (v:=s.rc.v) (aF.row (List.Mem.head _)) (fun _=>rfl) eRc ?_);conv=>whnf)
  | (refine ar.aj (ak.aG ae rfl rfl (ad:=⟨br,0,none⟩) (k:=378) (L:=E) (v:=s.ac.v) (aF.row (List.Mem.head _)) (fun _=>rfl) eAc ?_);conv=>whnf)
  | (refine ar.aj (ak.aG ae rfl rfl (ad:=⟨br,0,none⟩) (k:=379) (L:=E) (v:=s.nw.v) (aF.row (List.Mem.head _)) (fun _=>rfl) eNw ?_);conv=>whnf)
  | (refine ar.aj (ak.aG ae rfl rfl (ad:=⟨br,0,none⟩) (k:=273) (L:=E) (v:=s.qu.v) (aF.row (List.Mem.head _)) (fun _=>rfl) eQu ?_);conv=>whnf)
  | (refine ar.aj (ak.aG ae rfl rfl (ad:=⟨br,0,none⟩) (k:=270) (L:=E) (v:=s.cp.v) (aF.row (List.Mem.head _)) (fun _=>rfl) eCp ?_);conv=>whnf)
  | (refine ar.aj (ak.aG ae rfl rfl (ad:=⟨br,0,none⟩) (k:=271) (L:=E) (v:=s.gr.v) (aF.row (List.Mem.head _)) (fun _=>rfl) eGr ?_);conv=>whnf)
  | (refine ar.aj (ak.aG ae rfl rfl (ad:=⟨br,0,none⟩) (k:=272) (L:=E) (v:=s.ti.v) (aF.row (List.Mem.head _)) (fun _=>rfl) eTi ?_);conv=>whnf)
  | (refine ar.aj (ak.aG ae rfl rfl (ad:=⟨br,0,none⟩) (k:=307) (L:=E) (v:=s.wi.v) (aF.row (List.Mem.head _)) (fun _=>rfl) eWi ?_);conv=>whnf)
  | (refine ar.aj (ak.aG ae rfl rfl (ad:=⟨br,0,none⟩) (k:=370) (L:=E) (v:=s.al.v) (aF.row (List.Mem.head _)) (fun _=>rfl) eAl ?_);conv=>whnf)
  | (refine ar.aj (ak.aG ae rfl rfl (ad:=⟨br,0,none⟩) (k:=268) (L:=E) (v:=s.pr.v) (aF.row (List.Mem.head _)) (fun _=>rfl) ePr ?_);conv=>whnf)
  | (refine an.mk ?_ ?_;(focus (first | exact ao.refl _ | exact ao.left _ _ | exact ao.of_le ⟨List.sublist_append_left _ _,fun w h=>h⟩ | exact ao.of_le ⟨List.Sublist.refl _,fun w h=>h.1⟩));conv=>whnf))
 refine az.loop ae (ι:=Nat) ([3,4]++List.range' 47 19) (fun x=>x≤32)
  (fun x=>[(3,.v (.int .i64 (fY s x:Int))),(4,.v (.int .i64 (x:Int)))]) (fun _=>[]) (fun _=>⟨s.Rows,[(br,Row.c E)]⟩)
  (fun x=>32 - x) 0 (Nat.zero_le _) ?_ rfl (ao.of_le ⟨by simp[Value.cells],fun w hw=>hw⟩) fun i hi=>?_
 · conv=>whnf
   repeat (first | exact ax.nil | refine ax.any ?_ | refine ax.cons ?_ | refine ax.eq (congrArg (fun z=>SV.v (Value.int .i64 z)) (by(iterate 9 rw[tz (by omega)])<;>rfl)) ?_)
 have hsi:=hsum i hi
 conv=>whnf
 repeat (refine aa.of ?_;conv=>whnf)
 refine bV.split (fun hlt=>?_) (fun hlt=>?_)
 · have hlt':i<32:=by
    simp[au] at hlt
    omega
   have hd1:=hd i hlt'
   have hs1:=(ho.sp i hlt').le
   conv=>whnf
   repeat (refine aa.of ?_;conv=>whnf)
   refine az.draw ae mixed rfl rfl ?_
   conv=>whnf
   repeat' (first
    | (refine And.intro ?_ ?_<;>conv=>whnf)
    | (refine an.same rfl ?_;conv=>whnf)
    | (refine an.row rfl ?_;conv=>whnf)
    | (refine an.call rfl ?_;conv=>whnf)
    | (refine aS.of ?_;conv=>whnf)
    | (refine aa.of ?_;conv=>whnf)
    | (refine ak.bE ae rfl rfl rfl i rfl hlt' rfl ?_;conv=>whnf)
    | (refine ak.aG ae rfl rfl (ad:=⟨br,0,none⟩) (k:=275+i*1) (L:=E) (v:=(s.sp i).v) (aF.row (List.Mem.head _)) (fun _=>Addr.c_ rfl _ _) (by rw[Nat.mul_one];exact eS i hlt') ?_;conv=>whnf)
    | (refine ak.aG ae rfl rfl (ad:=⟨br,0,none⟩) (k:=i*8+7) (L:=E) (v:=dg (s.T i).data) (aF.row (List.Mem.head _)) (fun _=>Addr.c_ rfl _ _) (cellOf (eT i hlt') (j:=7) (by decide) rfl) ?_;conv=>whnf)
    | (refine an.mk ?_ ?_;(focus (first | exact ao.refl _ | exact ao.left _ _ | exact ao.of_le ⟨List.sublist_append_left _ _,fun w h=>h⟩ | exact ao.of_le ⟨List.Sublist.refl _,fun w h=>h.1⟩));conv=>whnf))
   refine⟨i+1,⟨hlt',by dsimp only;omega⟩,?_,?_,ao.refl _⟩
   · conv=>whnf
     refine⟨?_,rfl⟩
     repeat (first | exact ax.nil | refine ax.any ?_ | refine ax.cons ?_ | refine ax.eq (congrArg (fun z=>SV.v (Value.int .i64 z)) (vU s i hsi hd1 hs1 hlt')) ?_ | refine ax.eq (by rw[wrap_i64 (by omega)];rfl) ?_)
   · conv=>whnf
     exact trivial
 · have hie:i=32:=by
    simp[au] at hlt
    omega
   subst hie
   conv=>whnf
   repeat (refine aa.of ?_;conv=>whnf)
   repeat' (first
    | (refine And.intro ?_ ?_<;>conv=>whnf)
    | (refine an.same rfl ?_;conv=>whnf)
    | (refine an.row rfl ?_;conv=>whnf)
    | (refine an.call rfl ?_;conv=>whnf)
    | (refine aS.of ?_;conv=>whnf)
    | (refine aa.of ?_;conv=>whnf)
    | (refine ar.aj (ak.aT ae rfl rfl (ad:=⟨br,0,none⟩) (k:=274) (L:=E) (aF.row (List.Mem.head _)) rfl ePg rfl ?_);conv=>whnf)
    | (refine ar.aj (ak.aT ae rfl rfl (ad:=⟨br,0,none⟩) (k:=308) (L:=E) (aF.row (List.Mem.head _)) rfl eDk rfl ?_);conv=>whnf)
    | (refine ar.aj (ak.aT ae rfl rfl (ad:=⟨br,0,none⟩) (k:=322) (L:=E) (aF.row (List.Mem.head _)) rfl eLk rfl ?_);conv=>whnf)
    | (refine ar.aj (ak.aT ae rfl rfl (ad:=⟨br,0,none⟩) (k:=346) (L:=E) (aF.row (List.Mem.head _)) rfl eSe rfl ?_);conv=>whnf)
    | (refine ar.aj (ak.aT ae rfl rfl (ad:=⟨br,0,none⟩) (k:=371) (L:=E) (aF.row (List.Mem.head _)) rfl eIq rfl ?_);conv=>whnf)
    | (refine ar.aj (ak.aT ae rfl rfl (ad:=⟨br,0,none⟩) (k:=267) (L:=E) (aF.row (List.Mem.head _)) rfl ePo rfl ?_);conv=>whnf)
    | (refine ar.aj (ak.aG ae rfl rfl (ad:=⟨br,0,none⟩) (k:=333) (L:=E) (v:=.int .i64 s.lk.co.left) (aF.row (List.Mem.head _)) (fun _=>rfl) (cellOf eLk (j:=11) (by decide) rfl) ?_);conv=>whnf)
    | (refine ar.aj (ak.aG ae rfl rfl (ad:=⟨br,0,none⟩) (k:=342) (L:=E) (v:=.int .i64 s.lk.ci.left) (aF.row (List.Mem.head _)) (fun _=>rfl) (cellOf eLk (j:=20) (by decide) rfl) ?_);conv=>whnf)
    | (refine ar.aj (ak.aG ae rfl rfl (ad:=⟨br,0,none⟩) (k:=356) (L:=E) (v:=.int .i64 s.se.co.left) (aF.row (List.Mem.head _)) (fun _=>rfl) (cellOf eSe (j:=10) (by decide) rfl) ?_);conv=>whnf)
    | (refine ar.aj (ak.aG ae rfl rfl (ad:=⟨br,0,none⟩) (k:=365) (L:=E) (v:=.int .i64 s.se.ci.left) (aF.row (List.Mem.head _)) (fun _=>rfl) (cellOf eSe (j:=19) (by decide) rfl) ?_);conv=>whnf)
    | (refine aw.val h08 (fun w hw=>hw.pg) (fun v D hv=>?_);obtain⟨q8,rfl⟩:=hv;conv=>whnf)
    | (refine aw.val h11 (fun w hw=>hw.bk) (fun v D hv=>?_);obtain⟨q11,rfl⟩:=hv;conv=>whnf)
    | (refine aw.val h12 (fun w hw=>⟨hw.fl,hw.wt⟩) (fun v D hv=>?_);obtain⟨q12,rfl⟩:=hv;conv=>whnf)
    | (refine aw.val h13 (fun w hw=>trivial) (fun v D hv=>?_);obtain⟨q13,rfl⟩:=hv;conv=>whnf)
    | (refine aw.val h15 (fun w hw=>hw.pe) (fun v D hv=>?_);obtain⟨q15,rfl,h40⟩:=hv;conv=>whnf)
    | (refine aw.val h20 (fun w hw=>hw.q) (fun v D hv=>?_);obtain⟨q20,rfl⟩:=hv;conv=>whnf)
    | (split<;>conv=>whnf)
    | (refine an.mk ?_ ?_;(focus (first | exact ao.refl _ | exact ao.left _ _ | exact ao.of_le ⟨List.sublist_append_left _ _,fun w h=>h⟩ | exact ao.of_le ⟨List.Sublist.refl _,fun w h=>h.1⟩));conv=>whnf))
   all_goals first
    | (refine⟨_,ao.refl _,_,rfl,fun hh=>?_⟩;cases hh;done)
    | (
     refine⟨_,ao.refl _,_,rfl,fun _=>⟨?_,?_⟩⟩
     · have h:=‹mS ((fY s 32:Nat):Int) 3000=true›
       rw[aH,decide_eq_true_eq] at h
       omega
     · exact h40 ‹(bif true then q15 else false)=true›)
def pJ (s:bH):Bool:=(List.range 10).any fun k=>s.D (k+1)
theorem xT (s:bH) : ∀ i,i<11→(c8 s)[256+i]? = some (.bool (s.D i))
 | 0,_=>by kernel_rfl
 | 1,_=>by kernel_rfl
 | 2,_=>by kernel_rfl
 | 3,_=>by kernel_rfl
 | 4,_=>by kernel_rfl
 | 5,_=>by kernel_rfl
 | 6,_=>by kernel_rfl
 | 7,_=>by kernel_rfl
 | 8,_=>by kernel_rfl
 | 9,_=>by kernel_rfl
 | 10,_=>by kernel_rfl
 | i+11,h=>absurd h (by omega)
theorem n8 (s:bH):ah Tryz.prog 13 [.agg ⟨c8 s⟩] (fun _=>True) (fun v F=>∃ n,v = .tuple ⟨[.int .i64 n,.bool (pJ s)]⟩):=by
 obtain⟨E,hE⟩ : ∃ E,c8 s=E:=⟨_,rfl⟩
 have eD : ∀ i,i<11→E[256+i]? = some (.bool (s.D i)):=fun i hi=>by rw[← hE];exact xT s i hi
 rw[hE]
 obtain⟨q,hq⟩ : ∃ q,pJ s=q:=⟨_,rfl⟩
 rw[hq]
 refine ah.aK ae Tryz.func13 rfl (by decide) (n:=Tryz.f13.ntmps - 1) rfl rfl fun w0 av=>?_
 conv=>whnf
 repeat (refine aa.of ?_;conv=>whnf)
 refine ar.cz fun br=>?_
 conv=>whnf
 repeat (refine aa.of ?_;conv=>whnf)
 refine az.loop ae (ι:=Nat) (List.range' 4 9) (fun x=>x≤10∧∀ j,j<x→s.D (j+1)=false)
  (fun x=>[(4,.v (.int .i64 ((x+1:Nat):Int)))]) (fun _=>[]) (fun _=>⟨fun _=>True,[(br,Row.c E)]⟩)
  (fun x=>10 - x) 0 ⟨Nat.zero_le _,fun j h=>by omega⟩ ?_ rfl (ao.of_le ⟨by simp[Value.cells],fun w hw=>hw⟩) fun i hi=>?_
 · conv=>whnf
   repeat (first | exact ax.nil | refine ax.any ?_ | refine ax.cons ?_)
 obtain⟨hi,hall⟩:=hi
 conv=>whnf
 repeat (refine aa.of ?_;conv=>whnf)
 refine bV.split (fun hlt=>?_) (fun hlt=>?_)
 · have hlt':i<10:=by
    simp[aH] at hlt
    omega
   obtain⟨d,hd⟩ : ∃ d,s.D (i+1)=d:=⟨_,rfl⟩
   have hg:=eD (i+1) (by omega)
   rw[hd] at hg
   conv=>whnf
   repeat (refine aa.of ?_;conv=>whnf)
   refine ar.aj (ak.bE ae rfl rfl rfl (i+1) rfl (by omega) rfl ?_)
   conv=>whnf
   repeat (refine aa.of ?_;conv=>whnf)
   refine ar.aj (ak.aG ae rfl rfl (ad:=⟨br,0,none⟩) (k:=256+(i+1)*1) (L:=E) (v:=.bool d) (aF.row (List.Mem.head _)) (fun _=>Addr.c_ rfl _ _) (by rw[Nat.mul_one];exact hg) ?_)
   cases d
   · conv=>whnf
     repeat (refine aa.of ?_;conv=>whnf)
     refine⟨i+1,⟨⟨hlt',fun j hj=>?_⟩,by dsimp only;omega⟩,?_,?_,ao.refl _⟩
     · rcases Nat.lt_or_eq_of_le (Nat.lt_succ_iff.1 hj) with h5 | h5
       · exact hall j h5
       · exact h5 ▸ hd
     · conv=>whnf
       refine⟨?_,rfl⟩
       repeat (first | exact ax.nil | refine ax.any ?_ | refine ax.cons ?_ | refine ax.eq (congrArg (fun z=>SV.v (Value.int .i64 z)) (by rw[wrap_i64 (by omega)];omega)) ?_)
     · conv=>whnf
       exact trivial
   · have hq1:q=true:=by
      rw[← hq]
      unfold pJ
      rw[List.any_eq_true]
      exact⟨i,List.mem_range.2 hlt',hd⟩
     rw[hq1]
     conv=>whnf
     repeat (refine aa.of ?_;conv=>whnf)
     exact⟨_,ao.refl _,_,rfl⟩
 · have hie:i=10:=by
    simp[aH] at hlt
    omega
   subst hie
   have hq0:q=false:=by
    rw[← hq]
    unfold pJ
    rw[Bool.eq_false_iff,Ne,List.any_eq_true]
    rintro⟨k,hk,h⟩
    rw[hall k (List.mem_range.1 hk)] at h
    cases h
   rw[hq0]
   conv=>whnf
   repeat (refine aa.of ?_;conv=>whnf)
   exact⟨_,ao.refl _,_,rfl⟩
theorem qn {D:Nat→Bool} {a:Nat} (ha:D a=true) : ∀ n,a<n→1≤eI D n
 | n+1,h=>by
  unfold eI
  by_cases he:n=a
  · rw[he,ha]
    simp
  · have:=qn ha n (by omega)
    omega
theorem jL {D:Nat→Bool} {a b:Nat} (ha:D a=true) (hb:D b=true) (hab:a<b) : ∀ n,b<n→2≤eI D n
 | n+1,h=>by
  unfold eI
  by_cases he:n=b
  · rw[he,hb]
    have:=qn ha b hab
    simp
    omega
  · have:=jL ha hb hab n (by omega)
    omega
theorem qX (s:bH) {c:Nat} (h1:1≤c) (h2:c≤10) (h:(pJ s=true∧s.D c=false)∨c=1):ey { s with D:=d_ s.D c true }≠0:=by
 intro h0
 have hr:=sC.1 h0 11 (by decide) (by decide)
 have hr:jW (d_ s.D c true)=true:=hr
 unfold jW at hr
 simp only[Bool.and_eq_true,decide_eq_true_eq,Bool.not_eq_true'] at hr
 obtain⟨hn,-,hd1⟩:=hr
 rcases h with⟨hd,hc⟩ | rfl
 · unfold pJ at hd
   rw[List.any_eq_true] at hd
   obtain⟨k,hk,hkd⟩:=hd
   have hk:=List.mem_range.1 hk
   have hne:k+1≠c:=fun e=>by
    rw[e,hc] at hkd
    cases hkd
   have e1:d_ s.D c true (k+1)=true:=by
    unfold d_
    rw[if_neg hne]
    exact hkd
   have e2:d_ s.D c true c=true:=by
    unfold d_
    rw[if_pos rfl]
   rcases Nat.lt_or_gt_of_ne hne with hl | hl
   · have:=jL e1 e2 hl 11 (by omega)
     omega
   · have:=jL e2 e1 hl 11 (by omega)
     omega
 · unfold d_ at hd1
   rw[if_pos rfl] at hd1
   cases hd1
theorem qe {T:Nat→fE} {t:Nat} {x:fE} (h0:nv T t=false) (h1:kd x.kind 0=true) : ∀ n,gD (d_ T t x) n=gD T n+(if t<n then 1 else 0)
 | 0=>by simp[gD]
 | n+1=>by
  have ih:=qe h0 h1 n
  unfold gD
  rw[ih]
  have e:nv (d_ T t x) n=if n=t then true else nv T n:=by
   unfold nv d_
   by_cases h:n=t
   · rw[if_pos h,if_pos h,h1]
   · rw[if_neg h,if_neg h]
  rw[e]
  by_cases h:n=t
  · subst h
    simp[h0]
  · by_cases h2:t<n
    · have h3:t<n+1:=by omega
      simp[h,h2,h3]
      omega
    · have h3 : ¬ t<n+1:=by omega
      simp[h,h2,h3]
theorem qE (s:bH) (hok:ey s=0) {t:Nat} (h1:16≤t) (h2:t<32) (hk:(s.T t).kind=0):ey { s with T:=d_ s.T t { s.T t with kind:=2 } }=4:=by
 have hall:=sC.1 hok
 have hex:nv s.T t=false:=by
  unfold nv
  rw[hk]
  simp[aO]
 refine wy (by decide) (by decide) ?_ fun j hj1 hj2=>?_
 · show fR _=false
   have hq:fR s=true:=hall 4 (by decide) (by decide)
   unfold fR at hq ⊢
   simp only[Bool.and_eq_true,decide_eq_true_eq] at hq
   rw[Bool.and_eq_false_iff]
   right
   rw[decide_eq_false_iff_not]
   show ¬ s.qu.l.length=gD (d_ s.T t { s.T t with kind:=2 }) 32
   rw[qe hex (by simp[aO]),if_pos h2]
   omega
 · obtain h | h | h:j=1∨j=2∨j=3:=by omega
   · subst h
     exact hall 1 (by decide) (by decide)
   · subst h
     have h3:allI 32 (kindOk s.T)=true:=hall 2 (by decide) (by decide)
     show allI 32 (kindOk (d_ s.T t { s.T t with kind:=2 }))=true
     rw[pz] at h3 ⊢
     intro i hi
     have h4:=h3 i hi
     unfold kindOk at h4 ⊢
     unfold d_
     by_cases he:i=t
     · subst he
       rw[if_pos rfl]
       simp
       omega
     · rw[if_neg he]
       exact h4
   · subst h
     have h3:allI 32 (fp s.T)=true:=hall 3 (by decide) (by decide)
     show allI 32 (fp (d_ s.T t { s.T t with kind:=2 }))=true
     rw[pz] at h3 ⊢
     intro i hi
     have h4:=h3 i hi
     unfold fp at h4 ⊢
     by_cases he:i=t
     · subst he
       have e:d_ s.T i { s.T i with kind:=2 } i={ s.T i with kind:=2 }:=by
        unfold d_
        rw[if_pos rfl]
       rw[e,if_pos ⟨h1,fun h=>absurd (show(2:Int)=0 from h) (by decide)⟩]
       rw[if_neg (fun h=>h.2 hk)] at h4
       unfold fW at h4
       unfold dV o9
       simp only[Bool.and_eq_true,Bool.not_eq_true',aN,beq_iff_eq,decide_eq_true_eq] at h4
       obtain⟨a1,a2,a3,a4,a5,a6,a7⟩:=h4
       dsimp only
       rw[a1,a2,a5,a6,a7]
       simp[aN,aO,au,aJ]
     · have e:d_ s.T t { s.T t with kind:=2 } i=s.T i:=by
        unfold d_
        rw[if_neg he]
       rw[e]
       exact h4
def ij (T:Nat→fE) (hc ht hp hb hq:Hd) (pl bl:List Bs):bH:=Bt.mT ⟨168,⟨hc,dG⟩,⟨ht,nj⟩,⟨hp,pl⟩,⟨hb,bl⟩⟩ T ⟨hq,yk⟩
def lq:Nat→fE:=d_ cT 17 { cT 17 with kind:=3 }
theorem qy {n:Nat} {l:List Bs} (h:fS n l):dY n l=true:=by
 unfold dY
 rw[decide_eq_true h.1,Bool.true_and,Bool.not_eq_true',List.any_eq_false]
 intro x hx
 rw[(h.2 x hx).1]
 simp[aO]
section
variable (hc ht hp hb hq:Hd) (pl bl:List Bs) (h1:fS 96 pl) (h2:fS 160 bl)
include h1 h2
theorem lR (T:Nat→fE):jh (ij T hc ht hp hb hq pl bl)=true:=by
 unfold jh ij
 dsimp only[Bt.mT]
 rw[qy h1,qy h2]
 kernel_rfl
theorem sA : ∀ k,1≤k→k≤14→dt (ij cT hc ht hp hb hq pl bl) k=true
 | 0,h,_=>absurd h (by decide)
 | 1,_,_=>lR hc ht hp hb hq pl bl h1 h2 cT
 | 2,_,_=>by kernel_rfl
 | 3,_,_=>by kernel_rfl
 | 4,_,_=>by kernel_rfl
 | 5,_,_=>by kernel_rfl
 | 6,_,_=>by kernel_rfl
 | 7,_,_=>by kernel_rfl
 | 8,_,_=>by kernel_rfl
 | 9,_,_=>by kernel_rfl
 | 10,_,_=>by kernel_rfl
 | 11,_,_=>by kernel_rfl
 | 12,_,_=>by kernel_rfl
 | 13,_,_=>by kernel_rfl
 | 14,_,_=>by kernel_rfl
 | k+15,_,h=>absurd h (by omega)
theorem xJ:ey (ij cT hc ht hp hb hq pl bl)=0:=sC.2 (sA hc ht hp hb hq pl bl h1 h2)
theorem uv:ey (ij lq hc ht hp hb hq pl bl)=4:=
 wy (by decide) (by decide) (by kernel_rfl) fun j hj1 hj2=>by
  match j,hj1,hj2 with
  | 1,_,_=>exact lR hc ht hp hb hq pl bl h1 h2 lq
  | 2,_,_=>exact(show dt (ij lq hc ht hp hb hq pl bl) 2=true by kernel_rfl)
  | 3,_,_=>exact(show dt (ij lq hc ht hp hb hq pl bl) 3=true by kernel_rfl)
end
theorem s_:yk.length=11:=by decide
theorem ri (T:Nat→fE) {hc ht hp hb hq:Hd} {pl bl:List Bs} (h1:fS 96 pl) (h2:fS 160 bl) (o1:hc.Ok dG.length) (o2:ht.Ok 1) (o3:hp.Ok pl.length) (o4:hb.Ok bl.length) (o5:hq.Ok 11):(ij T hc ht hp hb hq pl bl).Ok:=by
 have e : ∀ {α:Type},(⟨Hd.nil,([]:List α)⟩:Sl α).Ok:=⟨Hd.lY,Nat.zero_le _⟩
 refine⟨⟨e,e,⟨o1,?_⟩,e,⟨o2,show 1≤140737488355328 by decide⟩,⟨by rw[← s_] at o5;exact o5,?_⟩,⟨o3,?_⟩,fun i _=>e,e,⟨o4,?_⟩,Hd.lY,Nat.zero_le _,Hd.lY,Nat.zero_le _,e,e,e,e,e⟩,Nat.zero_le _,fun i _=>Nat.zero_le _⟩
 · show dG.length≤_
   rw[nA]
   decide
 · show yk.length≤_
   rw[s_]
   decide
 · show pl.length≤_
   rw[h1.1]
   decide
 · show bl.length≤_
   rw[h2.1]
   decide
end Go.Proofs.YtlnhdpjnlffaoaaGreatDoor
namespace Go.Proofs.YtlnhdpjnlffaoaaGreatDoor
open Go Go.Sx
set_option maxRecDepth 100000
set_option maxHeartbeats 4000000
set_option linter.unusedVariables false
set_option linter.unusedSimpArgs false
theorem lW {T:Nat→fE} {hc ht hp hb hq:Hd} {pl bl:List Bs} {w:World} (h:Bt.zB ⟨168,⟨hc,dG⟩,⟨ht,nj⟩,⟨hp,pl⟩,⟨hb,bl⟩⟩ hq w):(ij T hc ht hp hb hq pl bl).Rows w:=by
 obtain⟨⟨⟨⟨h1,h2⟩,h3⟩,h4⟩,h5⟩:=h
 exact⟨rfl,rfl,h1,rfl,h2,h3,h4,fun i _=>rfl,rfl,h5,rfl,rfl,rfl,rfl,rfl,rfl⟩
structure Bo where
 hc:Hd
 ht:Hd
 hp:Hd
 hb:Hd
 hq:Hd
 pl:List Bs
 bl:List Bs
structure Bo.Ok (x:Bo):Prop where
 z1:fS 96 x.pl
 z2:fS 160 x.bl
 o1:x.hc.Ok dG.length
 o2:x.ht.Ok 1
 o3:x.hp.Ok x.pl.length
 o4:x.hb.Ok x.bl.length
 o5:x.hq.Ok 11
def Bo.at (x:Bo) (w:World):Prop:=Bt.zB ⟨168,⟨x.hc,dG⟩,⟨x.ht,nj⟩,⟨x.hp,x.pl⟩,⟨x.hb,x.bl⟩⟩ x.hq w
def Bo.C (x:Bo) (T:Nat→fE):List Value:=aR (ij T x.hc x.ht x.hp x.hb x.hq x.pl x.bl)
theorem Bo.put (x:Bo):laid (x.C cT) (17*8) [.int .i64 3]=x.C lq:=by
 unfold Bo.C
 kernel_rfl
theorem Bo.Ah (x:Bo) (h:x.Ok):ah Tryz.prog 10 [.agg ⟨x.C cT⟩] (fun w=>bQ w∧x.at w) (fun v F=>v = .tuple ⟨[.int .i64 0,.bool true]⟩):=by
 have k:=dv _ _ (ga _) (ri cT h.z1 h.z2 h.o1 h.o2 h.o3 h.o4 h.o5)
 rw[xJ x.hc x.ht x.hp x.hb x.hq x.pl x.bl h.z1 h.z2] at k
 exact k.imp (fun w hw=>⟨lW hw.2,hw.1⟩) fun v F hv=>hv
theorem Bo.Ao (x:Bo) (h:x.Ok):ah Tryz.prog 10 [.agg ⟨x.C lq⟩] (fun w=>bQ w∧x.at w) (fun v F=>v = .tuple ⟨[.int .i64 4,.bool false]⟩):=by
 have k:=dv _ _ (ga _) (ri lq h.z1 h.z2 h.o1 h.o2 h.o3 h.o4 h.o5)
 rw[uv x.hc x.ht x.hp x.hb x.hq x.pl x.bl h.z1 h.z2] at k
 exact k.imp (fun w hw=>⟨lW hw.2,hw.1⟩) fun v F hv=>hv
theorem Bo.len (x:Bo) (T:Nat→fE):(x.C T).length=376:=bc _
theorem Bo.one (x:Bo) (T:Nat→fE) : ∀ v∈x.C T,aV v=true:=fC _
attribute [irreducible] Bo.C Bo.at
noncomputable def mG:Code:=Tryz.f7.body.getD .skip
def zn (b2:Nat):List SV:=[.any,.any,.v (.pointer (some ⟨b2,0,none⟩))]++List.replicate 35 .any
def tL (b2:Nat):List SV:=[.any,.any,.v (.pointer (some ⟨b2,0,none⟩)),.any,.v (.bool true)]++List.replicate 33 .any
noncomputable def tI:Exit→KT:=j3 aU Tryz.f7.results.toList (dp fun v F=>v = .bool true)
theorem AV (x:Bo) (hx:x.Ok) (w0:World) (av:Nat→Prop) (b2:Nat):az Tryz.prog w0 (fun _ _=>False) av (cG 6 mG) (tL b2) [] [] ⟨fun w=>bQ w∧x.at w,[(b2,Row.c (x.C lq))]⟩ tI:=by
 have k2:=x.Ao hx
 have l2:=x.len lq
 have n4:=rM
 obtain⟨O2,hO2⟩ : ∃ O,x.C lq=O:=⟨_,rfl⟩
 rw[hO2] at k2 l2 ⊢
 refine az.aK ae ?_
 conv=>whnf
 repeat (refine aa.of ?_;conv=>whnf)
 refine ar.aj (ak.aT ae rfl rfl (ad:=⟨b2,0,none⟩) (k:=0) (L:=O2) (m:=O2) (aF.row (by simp)) rfl (by rw[List.drop_zero];exact List.take_of_length_le (by rw[l2];exact Nat.le_refl _)) l2 ?_)
 conv=>whnf
 repeat (refine aa.of ?_;conv=>whnf)
 refine aw.val k2 (fun w hw=>hw) (fun v D hv=>?_)
 subst hv
 conv=>whnf
 repeat (refine aa.of ?_;conv=>whnf)
 refine bV.yes (by simp[aN]) ?_
 conv=>whnf
 repeat (refine aa.of ?_;conv=>whnf)
 refine aw.val n4 (fun w hw=>trivial) (fun v D hv=>?_)
 subst hv
 conv=>whnf
 repeat (refine aa.of ?_;conv=>whnf)
 refine ar.aj (ak.zN (l:=[113,117,101,117,101]) (m:=[113,117,101,117,101]) ?_)
 conv=>whnf
 repeat (refine aa.of ?_;conv=>whnf)
 exact⟨_,ao.refl _,rfl⟩
theorem A6 (x:Bo) (hx:x.Ok) (w0:World) (av:Nat→Prop) (b2:Nat):az Tryz.prog w0 (fun _ _=>False) av (cG 5 mG) (tL b2) [] [] ⟨fun w=>bQ w∧x.at w,[(b2,Row.c (x.C cT))]⟩ tI:=by
 have hp:=x.put
 have l1:=x.len cT
 refine az.bT ae 1 (ι:=Unit) (fun _=>True) (fun _=>tL b2) (fun _=>[]) (fun _=>⟨fun w=>bQ w∧x.at w,[] ++ [(b2,Row.c (x.C lq))] ++ []⟩) ?_ ?_
 · conv=>whnf
   repeat (refine aa.of ?_;conv=>whnf)
   refine ar.aj (ak.bE ae rfl rfl rfl 17 rfl (by decide) rfl ?_)
   conv=>whnf
   repeat (refine aa.of ?_;conv=>whnf)
   refine aM.bJ (F':=⟨fun w=>bQ w∧x.at w,[] ++ [(b2,Row.c (x.C cT))] ++ []⟩) (ao.of_le ⟨by simp,fun w hw=>hw⟩) ?_
   refine aM.aY ae rfl (b:=b2) (k:=17*8) (X:=x.C lq) (by rw[Addr.bD,Addr.bD,Addr.bD];rfl) rfl (List.all_eq_true.1 (by rfl)) (by rw[l1];decide) hp ?_
   conv=>whnf
   repeat (refine aa.of ?_;conv=>whnf)
   refine⟨(),trivial,[],⟨by decide,by simp,rfl⟩,?_,ao.refl _⟩
   repeat (first | exact ax.nil | refine ax.any ?_ | refine ax.cons ?_)
 · intro _ _ bs' hbs'
   obtain rfl:=List.eq_nil_of_length_eq_zero hbs'
   rw[aP]
   exact AV x hx w0 av b2
theorem A1 (x:Bo) (hx:x.Ok) (w0:World) (av:Nat→Prop) (b2:Nat):az Tryz.prog w0 (fun _ _=>False) av (cG 4 mG) (zn b2) [] [] ⟨fun w=>bQ w∧x.at w,[(b2,Row.c (x.C cT))]⟩ tI:=by
 have k1:=x.Ah hx
 have l1:=x.len cT
 refine az.bT ae 1 (ι:=Unit) (fun _=>True) (fun _=>tL b2) (fun _=>[]) (fun _=>⟨fun w=>bQ w∧x.at w,[(b2,Row.c (x.C cT))]⟩) ?_ ?_
 · conv=>whnf
   repeat (refine aa.of ?_;conv=>whnf)
   refine ar.aj (ak.aT ae rfl rfl (ad:=⟨b2,0,none⟩) (k:=0) (L:=x.C cT) (m:=x.C cT) (aF.row (by simp)) rfl (by rw[List.drop_zero];exact List.take_of_length_le (by rw[l1];exact Nat.le_refl _)) l1 ?_)
   conv=>whnf
   repeat (refine aa.of ?_;conv=>whnf)
   refine aw.val k1 (fun w hw=>hw) (fun v D hv=>?_)
   subst hv
   conv=>whnf
   repeat (refine aa.of ?_;conv=>whnf)
   refine⟨(),trivial,[],⟨by decide,by simp,rfl⟩,?_,ao.refl _⟩
   repeat (first | exact ax.nil | refine ax.any ?_ | refine ax.cons ?_)
 · intro _ _ bs' hbs'
   obtain rfl:=List.eq_nil_of_length_eq_zero hbs'
   rw[aP]
   exact A6 x hx w0 av b2
theorem rq:ah Tryz.prog 7 [] bQ (fun v F=>v = .bool true):=by
 have hB:=sM
 have hcl:dG.length=167:=nA
 have hnx:((dG.length+1:Nat):Int)=168:=by rw[hcl];rfl
 rw[hnx] at hB
 have hN:=uW 168 dG (by rw[hcl];decide) hB
 obtain⟨Z,hZ⟩ : ∃ Z,aR iW=Z:=⟨_,rfl⟩
 have hZl:Z.length=376:=by rw[← hZ];exact bc _
 refine ah.f_ ae Tryz.func7 (c:=mG) rfl (by decide) (n:=Tryz.f7.ntmps - 0) rfl fun w0 av=>?_
 show az Tryz.prog w0 (fun _ _=>False) av mG _ [] [] _ tI
 refine az.bT ae 4 (ι:=Nat×Bo) (fun y=>y.2.Ok) (fun y=>zn y.1) (fun _=>[]) (fun y=>⟨fun w=>bQ w∧y.2.at w,[(y.1,Row.c (y.2.C cT))]⟩) ?_ ?_
 · conv=>whnf
   repeat (refine aa.of ?_;conv=>whnf)
   refine aw.pure hN (fun w hw=>trivial) (fun v D hv=>?_)
   obtain⟨x,hq,bk,bs,x1,x2,x3,x4,x5,rfl,rfl⟩:=hv
   have hS:=rJ 168 dG (by rw[hcl];decide) (by rw[hcl];decide) x hq bk bs x1 x2 x3 x4 x5
   conv=>whnf
   repeat (refine aa.of ?_;conv=>whnf)
   refine ar.aj (ak.vL ae (t:=142) rfl rfl ?_)
   conv=>whnf
   repeat (refine aa.of ?_;conv=>whnf)
   refine aw.pure hS (fun w hw=>hw.2) (fun v D hv=>?_)
   obtain⟨⟨nx,⟨hc,cl⟩,⟨ht,tl⟩,⟨hp,pl⟩,⟨hb,bl⟩⟩,hq',y1,y2,y3,y4,y5,rfl,rfl⟩:=hv
   dsimp only at y1 y2 y3
   subst y1 y2 y3
   obtain⟨o1,o2,o3,o4,o5,o6⟩:=y4
   obtain⟨y,hy⟩ : ∃ y:Bo,y=⟨hc,ht,hp,hb,hq',pl,bl⟩:=⟨_,rfl⟩
   have hyo:y.Ok:=by rw[hy];exact⟨o5,o6,o1,o2,o3,o4,y5⟩
   have hyC:aR (Bt.mT ⟨168,⟨hc,dG⟩,⟨ht,nj⟩,⟨hp,pl⟩,⟨hb,bl⟩⟩ cT ⟨hq',yk⟩)=y.C cT:=by rw[hy];unfold Bo.C;rfl
   have hyA:Bt.zB ⟨168,⟨hc,dG⟩,⟨ht,nj⟩,⟨hp,pl⟩,⟨hb,bl⟩⟩ hq'=y.at:=by rw[hy];unfold Bo.at;rfl
   rw[hyC,hyA]
   have l1:=y.len cT
   have n1:=y.one cT
   clear hS hN hB hy hyC hyA
   conv=>whnf
   repeat (refine aa.of ?_;conv=>whnf)
   refine ar.bJ (F':=⟨fun w=>bQ w∧y.at w,[]⟩) (ao.of_le ⟨by simp[Fx.and],fun w hw=>⟨hw.1.1,hw.2⟩⟩) ?_
   refine ar.cW ae rfl (z:=Z) (by rw[← hZ];kernel_rfl) fun b2=>?_
   conv=>whnf
   repeat (refine aa.of ?_;conv=>whnf)
   refine aM.bJ (F':=⟨fun w=>bQ w∧y.at w,[] ++ [(b2,Row.c Z)] ++ []⟩) (ao.of_le ⟨by simp,fun w hw=>hw⟩) ?_
   refine aM.aY ae rfl (b:=b2) (k:=0) (X:=y.C cT) rfl (by exact l1) (by exact n1) (by rw[hZl];exact Nat.le_refl _) (cw (by rw[hZl];exact l1)) ?_
   conv=>whnf
   repeat (refine aa.of ?_;conv=>whnf)
   refine⟨(b2,y),hyo,[],⟨by decide,by simp,rfl⟩,?_,ao.of_le ⟨by simp,fun w hw=>hw⟩⟩
   repeat (first | exact ax.nil | refine ax.any ?_ | refine ax.cons ?_)
 · intro y hy bs' hbs'
   obtain rfl:=List.eq_nil_of_length_eq_zero hbs'
   exact A1 y.2 hy w0 av y.1
open Go Go.Sx Go.ChangeShapes Go.WideShapes Go.ChangeAt Go.RowKit
set_option maxHeartbeats 2000000
theorem xI:ownKnob Tryz.prog.godebug=none:=by kernel_rfl
theorem pQ:laidOutB Tryz.prog=true:=by kernel_rfl
theorem nk:mapsRowed Tryz.prog=true:=by kernel_rfl
theorem vy:((List.range Tryz.prog.types.size).all fun t=>match Tryz.prog.underlying t with | some (.slice e)=>decide (0<Tryz.prog.cellsOf e) | _=>true)=true:=by kernel_rfl
theorem vM {W:World} (h:laidMetH Tryz.prog [("ratoon/message.forms",Rows.laid_ratoon_message_forms)] W):bQ W:=by
 rw[MakeChecks.laidMetH_plain _ _ _ (by kernel_rfl)] at h
 obtain⟨ps,⟨g,t,cs,fuel,p,q,h1,h2,h3,h4,-,-⟩,-,-⟩:=h
 have hg:Tryz.prog.globalNamed "ratoon/message.forms" = some 0:=by kernel_rfl
 rw[hg] at h1
 cases h1
 have ht:(Tryz.prog.globals[0]?).map (·.type)=some 340:=by kernel_rfl
 rw[ht] at h2
 cases h2
 obtain⟨xs,m,_,_,hl,_,_⟩:=DataW.trod_array Tryz.underlying340 h4
 have hc:Tryz.prog.cellsOf 340=112:=by kernel_rfl
 rw[hc] at hl
 have hcs:=pw hl h4 rfl
 unfold World.var? at h3
 rw[hg] at h3
 simp only[Option.bind_some] at h3
 split at h3
 · rename_i cs' e fz hb
   cases h3
   refine .inr ⟨rfl,cs,e,fz,hb,fun j hj=>?_⟩
   rw[← hcs]
   show cs[0+j]? = _
   rw[Nat.zero_add,Array.getElem?_toList]
 · cases h3
theorem Rows.agree {W w':World} {s:bH} (h:s.Rows W) (hw : ∀ b,b<W.heap.size→w'.heap[b]? = W.heap[b]?):s.Rows w':=
 ⟨af.agree h.q hw,af.agree h.pr hw,af.agree h.cp hw,af.agree h.gr hw,af.agree h.ti hw,af.agree h.qu hw,af.agree h.pg hw,fun i hi=>af.agree (h.sp i hi) hw,af.agree h.wi hw,af.agree h.bk hw,af.agree h.fl hw,af.agree h.wt hw,af.agree h.al hw,af.agree h.pe hw,af.agree h.rc hw,af.agree h.ac hw⟩
section
variable {H:Type} {enc:TypeId×Value→H} {w:World} {base:Nat} {spare:Nat→Bool} {held:Bool} {r:Reach} {b0:Nat}
theorem sS {v:Value} {d:DataW H} {p:List MemPlace} {ts:List TypeId} {ds:List (DataW H)} {j:Nat} (hv:Value.okWide Tryz.prog w r b0 74 v) (h:DataW.Trod enc Tryz.prog w base spare held 74 v d p)
 (hz:(DataW.weightsEach Tryz.prog ts ds).all (·≤reachBytes)=true) (ht:ts[j]? = some 74) (hd:ds[j]? = some d) : ∃ s:bH,v = .agg ⟨c8 s⟩∧xY w s:=by
 obtain⟨q,hq⟩:=h
 simp only[Value.okWide,Tryz.underlying74] at hv
 obtain⟨⟨cs⟩,rfl,hsz,hr⟩:=hv
 have ho:=wj (enc:=enc) (w:=w) (base:=base) (spare:=spare) (held:=held)
 rw[ho.cells] at hsz
 obtain⟨s,hs,hin⟩:=ho.get q cs _ hq hsz fun k hk=>by
  have:=List.all_eq_true.1 hz k (DataW.weights_mem_each ht hd k hk)
  simpa using this
 exact⟨s,by rw[hs],hin⟩
theorem uZ {v:Value} {d:DataW H} {p:List MemPlace} {ts:List TypeId} {ds:List (DataW H)} {j:Nat} (hv:Value.okWide Tryz.prog w r b0 130 v) (h:DataW.Trod enc Tryz.prog w base spare held 130 v d p)
 (hz:(DataW.weightsEach Tryz.prog ts ds).all (·≤reachBytes)=true) (ht:ts[j]? = some 130) (hd:ds[j]? = some d) : ∃ a b:Nat,v = .agg ⟨[.int .u8 a,.int .u8 b]⟩:=by
 obtain⟨q,hq⟩:=h
 simp only[Value.okWide,Tryz.underlying130] at hv
 obtain⟨⟨cs⟩,rfl,hsz,hr⟩:=hv
 have ho:=yW (enc:=enc) (w:=w) (base:=base) (spare:=spare) (held:=held)
 rw[ho.cells] at hsz
 obtain⟨g,hs,-⟩:=ho.get q cs _ hq hsz fun k hk=>by
  have:=List.all_eq_true.1 hz k (DataW.weights_mem_each ht hd k hk)
  simpa using this
 exact⟨g 0,g 1,by rw[hs];rfl⟩
end
end Go.Proofs.YtlnhdpjnlffaoaaGreatDoor
namespace Go.Proofs.YtlnhdpjnlffaoaaGreatDoor
open Go Go.Sx
set_option maxRecDepth 100000
set_option maxHeartbeats 4000000
set_option linter.unusedVariables false
set_option linter.unusedSimpArgs false
theorem bH.qI.ok {s:bH} (h:s.qI) (hf:fY s 32≤3000):s.Ok:=
 ⟨h,by have:=vh s;unfold r9 at this;omega,fun i hi=>by have:=xx s hi;omega⟩
theorem bH.qI.small {s:bH} (h:s.qI) (hf:fY s 32≤3000) (hp:s.pe.l.length≤40) (hl:s.lk.fly.length≤4398046511104):s.Small:=by
 have:=vh s
 unfold r9 at this
 exact⟨by omega,by omega,by omega,by omega,by omega,hl,by omega,by omega,by omega⟩
theorem js (s:bH) (pr cp gr ti:Hd) (sp:Nat→Hd) (wi fh al pe nw:Hd):ey (s.xX pr cp gr ti sp wi fh al pe nw)=ey s:=by
 unfold bH.xX
 rfl
theorem bH.Ok.sh {s:bH} (h:s.Ok) (D:Nat→Bool):({ s with D:=D }:bH).Ok:=
 ⟨⟨h.q,h.pr,h.cp,h.gr,h.ti,h.qu,h.pg,h.sp,h.wi,h.bk,h.fh,h.fl,h.wh,h.wl,h.al,h.pe,h.rc,h.ac,h.nw⟩,h.gl,h.sl⟩
theorem bH.Small.sh {s:bH} (h:s.Small) (D:Nat→Bool):({ s with D:=D }:bH).Small:=
 ⟨h.pr,h.cp,h.gr,h.ti,h.wi,h.fl,h.al,h.pe,h.nw⟩
theorem bH.Rows.sh {s:bH} {w:World} (h:s.Rows w) (D:Nat→Bool):({ s with D:=D }:bH).Rows w:=
 ⟨h.q,h.pr,h.cp,h.gr,h.ti,h.qu,h.pg,h.sp,h.wi,h.bk,h.fl,h.wt,h.al,h.pe,h.rc,h.ac⟩
theorem bH.Ok.uX {s:bH} (h:s.Ok) (T:Nat→fE):({ s with T:=T }:bH).Ok:=
 ⟨⟨h.q,h.pr,h.cp,h.gr,h.ti,h.qu,h.pg,h.sp,h.wi,h.bk,h.fh,h.fl,h.wh,h.wl,h.al,h.pe,h.rc,h.ac,h.nw⟩,h.gl,h.sl⟩
theorem bH.Small.uX {s:bH} (h:s.Small) (T:Nat→fE):({ s with T:=T }:bH).Small:=
 ⟨h.pr,h.cp,h.gr,h.ti,h.wi,h.fl,h.al,h.pe,h.nw⟩
theorem bH.Rows.uX {s:bH} {w:World} (h:s.Rows w) (T:Nat→fE):({ s with T:=T }:bH).Rows w:=
 ⟨h.q,h.pr,h.cp,h.gr,h.ti,h.qu,h.pg,h.sp,h.wi,h.bk,h.fl,h.wt,h.al,h.pe,h.rc,h.ac⟩
theorem wH (s:bH) (n:Int) : ∀ i,i<32→laid (c8 s) (i*8) [.int .i64 n]=c8 { s with T:=d_ s.T i { s.T i with kind:=n } }
 | 0,_=>by kernel_rfl
 | 1,_=>by kernel_rfl
 | 2,_=>by kernel_rfl
 | 3,_=>by kernel_rfl
 | 4,_=>by kernel_rfl
 | 5,_=>by kernel_rfl
 | 6,_=>by kernel_rfl
 | 7,_=>by kernel_rfl
 | 8,_=>by kernel_rfl
 | 9,_=>by kernel_rfl
 | 10,_=>by kernel_rfl
 | 11,_=>by kernel_rfl
 | 12,_=>by kernel_rfl
 | 13,_=>by kernel_rfl
 | 14,_=>by kernel_rfl
 | 15,_=>by kernel_rfl
 | 16,_=>by kernel_rfl
 | 17,_=>by kernel_rfl
 | 18,_=>by kernel_rfl
 | 19,_=>by kernel_rfl
 | 20,_=>by kernel_rfl
 | 21,_=>by kernel_rfl
 | 22,_=>by kernel_rfl
 | 23,_=>by kernel_rfl
 | 24,_=>by kernel_rfl
 | 25,_=>by kernel_rfl
 | 26,_=>by kernel_rfl
 | 27,_=>by kernel_rfl
 | 28,_=>by kernel_rfl
 | 29,_=>by kernel_rfl
 | 30,_=>by kernel_rfl
 | 31,_=>by kernel_rfl
 | i+32,h=>absurd h (by omega)
theorem sZ {a m c:Nat} (hm:m≤256) (hm0:0<m) (hc:c≤256):IntKind.i64.wrap ((c:Int)+IntKind.i64.wrap ((a:Int).tmod (m:Int)))=((c+a%m:Nat):Int):=by
 have h1:=Nat.mod_lt a hm0
 have e:(a:Int).tmod (m:Int)=((a%m:Nat):Int):=rfl
 have e2:IntKind.i64.wrap ((a%m:Nat):Int)=((a%m:Nat):Int):=wrap_i64 (by omega)
 rw[e,e2,tz (by omega)]
def vi (s:bH) (b:Nat):bH:={ s with T:=d_ s.T (16+b%16) { s.T (16+b%16) with kind:=2 } }
def sB (s:bH) (a:Nat):bH:={ s with D:=d_ s.D (1+a%10) true }
noncomputable def lJ:Code:=Tryz.f4.body.getD .skip
def zr (br b7:Nat):List SV:=[.any,.any,.v (.pointer (some ⟨br,0,none⟩)),.p 0 0,.any,.any,.any,.v (.pointer (some ⟨b7,0,none⟩))]++List.replicate 85 .any
noncomputable def sj:Exit→KT:=j3 aU Tryz.f4.results.toList (dp (fun v F=>v = .bool true))
theorem wm (s:bH) (hok:s.Ok) (hsm:s.Small) (h0:ey s=0) (w0:World) (av:Nat→Prop) (a b:Nat) (E:List Value) (hEl:E.length=380) (hE1 : ∀ v∈E,aV v=true) (g2:E[(16+b%16)*8+0]? = some (.int .i64 (s.T (16+b%16)).kind))
 (p2:laid E ((16+b%16)*8) [.int .i64 2]=c8 (vi s b)) (br b7:Nat) (X:List Value) (hX:X.length=380) (bs:List (Nat×Nat)) (hbs:bs.length=1) :
 az Tryz.prog w0 (fun _ _=>False) av (cG 6 lJ) (zr br b7) bs [[.int .u8 (a:Int),.int .u8 (b:Int)]] ⟨fun w=>(s.Rows w∧s.nw.At aQ w)∧bQ w,[(br,Row.c E)] ++ [(b7,Row.c X)] ++ []⟩ sj:=by
 obtain⟨⟨c1,o1⟩,rfl⟩ : ∃ x,bs = [x]:=by
  rcases bs with _ | ⟨x,_ | ⟨y,r⟩⟩<;>simp at hbs
  exact⟨x,rfl⟩
 have hlob:=Nat.mod_lt b (show 0<16 by decide)
 have hcB:IntKind.i64.wrap (16+IntKind.i64.wrap ((b:Int).tmod 16))=((16+b%16:Nat):Int):=sZ (m:=16) (c:=16) (by decide) (by decide) (by decide)
 have hTo:=o_ (vi s b) (hok.uX _) (hsm.uX _)
 obtain⟨E2,hE2⟩ : ∃ E2,c8 (vi s b)=E2:=⟨_,rfl⟩
 have hE2l:E2.length=380:=by rw[← hE2];exact fG _
 rw[hE2] at hTo p2
 refine az.aK ae ?_
 conv=>whnf
 repeat (refine aa.of ?_;conv=>whnf)
 repeat' (first
  | (refine And.intro ?_ ?_<;>conv=>whnf)
  | (refine an.same rfl ?_;conv=>whnf)
  | (refine an.row rfl ?_;conv=>whnf)
  | (refine an.call rfl ?_;conv=>whnf)
  | (refine aS.of ?_;conv=>whnf)
  | (refine aa.of ?_;conv=>whnf)
  | (refine ar.aj (ak.aT ae rfl rfl (ad:=⟨br,0,none⟩) (k:=0) (L:=E) (m:=E) (aF.row (by simp)) rfl (by rw[List.drop_zero];exact List.take_of_length_le (by rw[hEl];exact Nat.le_refl _)) hEl ?_);conv=>whnf)
  | (refine an.mk ?_ ?_;(focus (first | exact ao.refl _ | exact ao.left _ _ | exact ao.of_le ⟨List.sublist_append_left _ _,fun w h=>h⟩ | exact ao.of_le ⟨List.Sublist.refl _,fun w h=>h.1⟩));conv=>whnf))
 refine aM.aY ae rfl (b:=b7) (k:=0) (X:=E) rfl (by exact hEl) (by exact hE1) (by rw[hX];exact Nat.le_refl _) (cw (by rw[hX];exact hEl)) ?_
 conv=>whnf
 repeat (refine aa.of ?_;conv=>whnf)
 repeat' (first
  | (refine And.intro ?_ ?_<;>conv=>whnf)
  | (refine an.same rfl ?_;conv=>whnf)
  | (refine an.row rfl ?_;conv=>whnf)
  | (refine an.call rfl ?_;conv=>whnf)
  | (refine aS.of ?_;conv=>whnf)
  | (refine aa.of ?_;conv=>whnf)
  | (refine ar.aj (ak.bE ae rfl rfl rfl (16+b%16) hcB (by omega) rfl ?_);conv=>whnf)
  | (refine ar.aj (ak.aG ae rfl rfl (ad:=⟨br,0,none⟩) (k:=(16+b%16)*8+0) (L:=E) (v:=.int .i64 (s.T (16+b%16)).kind) (aF.row (by simp)) (fun _=>Addr.c_ rfl _ _) g2 ?_);conv=>whnf)
  | (refine an.mk ?_ ?_;(focus (first | exact ao.refl _ | exact ao.left _ _ | exact ao.of_le ⟨List.sublist_append_left _ _,fun w h=>h⟩ | exact ao.of_le ⟨List.Sublist.refl _,fun w h=>h.1⟩));conv=>whnf))
 refine bV.split (fun hk=>?_) (fun hk=>?_)
 · conv=>whnf
   repeat (refine aa.of ?_;conv=>whnf)
   exact⟨_,ao.refl _,rfl⟩
 have hk0:(s.T (16+b%16)).kind=0:=by
  simpa [aO] using hk
 have hch:ey (vi s b)=4:=qE s h0 (by omega) (by omega) hk0
 conv=>whnf
 repeat (refine aa.of ?_;conv=>whnf)
 repeat' (first
  | (refine And.intro ?_ ?_<;>conv=>whnf)
  | (refine an.same rfl ?_;conv=>whnf)
  | (refine an.row rfl ?_;conv=>whnf)
  | (refine an.call rfl ?_;conv=>whnf)
  | (refine aS.of ?_;conv=>whnf)
  | (refine aa.of ?_;conv=>whnf)
  | (refine ar.aj (ak.bE ae rfl rfl rfl (16+b%16) hcB (by omega) rfl ?_);conv=>whnf)
  | (refine an.mk ?_ ?_;(focus (first | exact ao.refl _ | exact ao.left _ _ | exact ao.of_le ⟨List.sublist_append_left _ _,fun w h=>h⟩ | exact ao.of_le ⟨List.Sublist.refl _,fun w h=>h.1⟩));conv=>whnf))
 refine aM.aY ae rfl (b:=b7) (k:=(16+b%16)*8) (X:=E2) (by rw[Addr.bD,Addr.bD,Addr.bD];simp) rfl (List.all_eq_true.1 (by rfl)) (by rw[hEl];show _+1≤_;omega) p2 ?_
 conv=>whnf
 repeat (refine aa.of ?_;conv=>whnf)
 repeat' (first
  | (refine And.intro ?_ ?_<;>conv=>whnf)
  | (refine an.same rfl ?_;conv=>whnf)
  | (refine an.row rfl ?_;conv=>whnf)
  | (refine an.call rfl ?_;conv=>whnf)
  | (refine aS.of ?_;conv=>whnf)
  | (refine aa.of ?_;conv=>whnf)
  | (refine ar.aj (ak.aT ae rfl rfl (ad:=⟨b7,0,none⟩) (k:=0) (L:=E2) (m:=E2) (aF.row (by simp)) rfl (by rw[List.drop_zero];exact List.take_of_length_le (by rw[hE2l];exact Nat.le_refl _)) hE2l ?_);conv=>whnf)
  | (refine aw.pure hTo (fun w hw=>⟨hw.1.1.uX _,hw.1.2⟩) (fun v F hv=>?_);obtain⟨pr,cp,gr,ti,sp,wi,fh,al,pe,nw,rfl,hok',rfl⟩:=hv;conv=>whnf)
  | (refine aw.val (dv _ _ (ga _) hok') (fun w hw=>⟨hw.2.1,hw.1.2⟩) (fun v F hv=>?_);rw[js,hch] at hv;subst hv;conv=>whnf)
  | (refine an.mk ?_ ?_;(focus (first | exact ao.refl _ | exact ao.left _ _ | exact ao.of_le ⟨List.sublist_append_left _ _,fun w h=>h⟩ | exact ao.of_le ⟨List.Sublist.refl _,fun w h=>h.1⟩));conv=>whnf))
 exact⟨_,ao.refl _,congrArg Value.bool (by simp[aN])⟩
def x9 (br b7:Nat) (c:Int):List SV:=[.any,.any,.v (.pointer (some ⟨br,0,none⟩)),.p 0 0,.any,.any,.any,.v (.pointer (some ⟨b7,0,none⟩)),.v (.int .i64 c)]++List.replicate 84 .any
theorem xj (s:bH) (hok:s.Ok) (hsm:s.Small) (h0:ey s=0) (w0:World) (av:Nat→Prop) (a b:Nat) (E:List Value) (hE:c8 s=E) (br b7:Nat) (bs:List (Nat×Nat)) (hbs:bs.length=1) :
 az Tryz.prog w0 (fun _ _=>False) av (cG 5 lJ) (x9 br b7 ((1+a%10:Nat):Int)) bs [[.int .u8 (a:Int),.int .u8 (b:Int)]] ⟨fun w=>(s.Rows w∧s.nw.At aQ w)∧bQ w,[(br,Row.c E)] ++ [(b7,Row.c E)] ++ []⟩ sj:=by
 have hlow:=Nat.mod_lt a (show 0<10 by decide)
 have hlob:=Nat.mod_lt b (show 0<16 by decide)
 have g1:(c8 s)[256+(1+a%10)]? = some (.bool (s.D (1+a%10))):=xT s _ (by omega)
 have g2:(c8 s)[(16+b%16)*8+0]? = some (.int .i64 (s.T (16+b%16)).kind):=cellOf (vW s (16+b%16) (by omega)) (j:=0) (by decide) rfl
 have p1:laid (c8 s) (256+(1+a%10)) [.bool true]=c8 (sB s a):=zK s true _ (by omega)
 have p2:laid (c8 s) ((16+b%16)*8) [.int .i64 2]=c8 (vi s b):=wH s 2 _ (by omega)
 have hEl:(c8 s).length=380:=fG s
 have hE1 : ∀ v∈c8 s,aV v=true:=pd s
 have hDn:=n8 s
 have hgo : ∀ t,((pJ s=true∧s.D (1+a%10)=false)∨(1+a%10)=1)→t=sB s a→ey t≠0:=fun t h e=>e ▸ qX s (by omega) (by omega) h
 have hTo1:=o_ (sB s a) (hok.sh _) (hsm.sh _)
 obtain⟨E3,hE3⟩ : ∃ E3,c8 (sB s a)=E3:=⟨_,rfl⟩
 have hE3l:E3.length=380:=by rw[← hE3];exact fG _
 rw[hE3] at hTo1 p1
 rw[hE] at g1 g2 p1 p2 hEl hE1 hDn
 obtain⟨dw,hdw⟩ : ∃ dw,pJ s=dw:=⟨_,rfl⟩
 obtain⟨dc,hdc2⟩ : ∃ dc,s.D (1+a%10)=dc:=⟨_,rfl⟩
 rw[hdc2] at g1 hgo
 rw[hdw] at hgo hDn
 obtain⟨c,hc⟩ : ∃ c,1+a%10=c:=⟨_,rfl⟩
 rw[hc] at g1 hgo p1 ⊢
 have hcl:c≤10:=by omega
 refine az.bT ae 1 (ι:=List Value) (fun X=>X.length=380) (fun _=>zr br b7) (fun _=>[[.int .u8 (a:Int),.int .u8 (b:Int)]]) (fun X=>⟨fun w=>(s.Rows w∧s.nw.At aQ w)∧bQ w,[(br,Row.c E)] ++ [(b7,Row.c X)] ++ []⟩) ?_ ?_
 · obtain⟨⟨c1,o1⟩,rfl⟩ : ∃ x,bs = [x]:=by
    rcases bs with _ | ⟨x,_ | ⟨y,r⟩⟩<;>simp at hbs
    exact⟨x,rfl⟩
   conv=>whnf
   repeat (refine aa.of ?_;conv=>whnf)
   refine ar.aj (ak.aT ae rfl rfl (ad:=⟨br,0,none⟩) (k:=0) (L:=E) (m:=E) (aF.row (by simp)) rfl (by rw[List.drop_zero];exact List.take_of_length_le (by rw[hEl];exact Nat.le_refl _)) hEl ?_)
   conv=>whnf
   repeat (refine aa.of ?_;conv=>whnf)
   refine aw.val hDn (fun w hw=>trivial) (fun v D hv=>?_)
   obtain⟨n,rfl⟩:=hv
   cases dw
   · conv=>whnf
     repeat (refine aa.of ?_;conv=>whnf)
     refine bV.split (fun h=>?_) (fun h=>?_)
     · have hc1:c=1:=by
        simp[aN] at h
        omega
       have hne:ey (sB s a)≠0:=hgo _ (.inr hc1) rfl
       conv=>whnf
       repeat (refine aa.of ?_;conv=>whnf)
       refine ar.aj (ak.bE ae rfl rfl rfl c rfl (by omega) rfl ?_)
       conv=>whnf
       repeat (refine aa.of ?_;conv=>whnf)
       refine aM.aY ae rfl (b:=b7) (k:=256+c) (X:=E3) (by rw[iY,Nat.mul_one]) rfl (List.all_eq_true.1 (by rfl)) (by rw[hEl];show _+1≤380;omega) p1 ?_
       conv=>whnf
       repeat (refine aa.of ?_;conv=>whnf)
       refine ar.aj (ak.aT ae rfl rfl (ad:=⟨b7,0,none⟩) (k:=0) (L:=E3) (m:=E3) (aF.row (by simp)) rfl (by rw[List.drop_zero];exact List.take_of_length_le (by rw[hE3l];exact Nat.le_refl _)) hE3l ?_)
       conv=>whnf
       repeat (refine aa.of ?_;conv=>whnf)
       refine aw.pure hTo1 (fun w hw=>⟨hw.1.1.sh _,hw.1.2⟩) (fun v F hv=>?_)
       obtain⟨pr,cp,gr,ti,sp,wi,fh,al,pe,nw,rfl,hok',rfl⟩:=hv
       conv=>whnf
       repeat (refine aa.of ?_;conv=>whnf)
       refine aw.val (dv _ _ (ga _) hok') (fun w hw=>⟨hw.2.1,hw.1.2⟩) (fun v F hv=>?_)
       rw[js,decide_eq_false hne] at hv
       subst hv
       conv=>whnf
       repeat (refine aa.of ?_;conv=>whnf)
       refine⟨E3,hE3l,[0],⟨by decide,by simp,rfl⟩,?_,ao.of_le ⟨by simp[Fx.and],fun w hw=>hw.1⟩⟩
       repeat (first | exact ax.nil | refine ax.any ?_ | refine ax.cons ?_)
     · conv=>whnf
       repeat (refine aa.of ?_;conv=>whnf)
       refine⟨E,hEl,[0],⟨by decide,by simp,rfl⟩,?_,ao.of_le ⟨by simp,fun w hw=>hw⟩⟩
       repeat (first | exact ax.nil | refine ax.any ?_ | refine ax.cons ?_)
   · conv=>whnf
     repeat (refine aa.of ?_;conv=>whnf)
     refine ar.aj (ak.bE ae rfl rfl rfl c rfl (by omega) rfl ?_)
     conv=>whnf
     repeat (refine aa.of ?_;conv=>whnf)
     refine ar.aj (ak.aG ae rfl rfl (ad:=⟨br,0,none⟩) (k:=256+c) (L:=E) (v:=.bool dc) (aF.row (by simp)) (fun _=>by rw[iY,Nat.mul_one];simp[Addr.add]) g1 ?_)
     cases dc
     · have hne:ey (sB s a)≠0:=hgo _ (.inl ⟨rfl,rfl⟩) rfl
       conv=>whnf
       repeat (refine aa.of ?_;conv=>whnf)
       refine ar.aj (ak.bE ae rfl rfl rfl c rfl (by omega) rfl ?_)
       conv=>whnf
       repeat (refine aa.of ?_;conv=>whnf)
       refine aM.aY ae rfl (b:=b7) (k:=256+c) (X:=E3) (by rw[iY,Nat.mul_one]) rfl (List.all_eq_true.1 (by rfl)) (by rw[hEl];show _+1≤380;omega) p1 ?_
       conv=>whnf
       repeat (refine aa.of ?_;conv=>whnf)
       refine ar.aj (ak.aT ae rfl rfl (ad:=⟨b7,0,none⟩) (k:=0) (L:=E3) (m:=E3) (aF.row (by simp)) rfl (by rw[List.drop_zero];exact List.take_of_length_le (by rw[hE3l];exact Nat.le_refl _)) hE3l ?_)
       conv=>whnf
       repeat (refine aa.of ?_;conv=>whnf)
       refine aw.pure hTo1 (fun w hw=>⟨hw.1.1.sh _,hw.1.2⟩) (fun v F hv=>?_)
       obtain⟨pr,cp,gr,ti,sp,wi,fh,al,pe,nw,rfl,hok',rfl⟩:=hv
       conv=>whnf
       repeat (refine aa.of ?_;conv=>whnf)
       refine aw.val (dv _ _ (ga _) hok') (fun w hw=>⟨hw.2.1,hw.1.2⟩) (fun v F hv=>?_)
       rw[js,decide_eq_false hne] at hv
       subst hv
       conv=>whnf
       repeat (refine aa.of ?_;conv=>whnf)
       refine⟨E3,hE3l,[0],⟨by decide,by simp,rfl⟩,?_,ao.of_le ⟨by simp[Fx.and],fun w hw=>hw.1⟩⟩
       repeat (first | exact ax.nil | refine ax.any ?_ | refine ax.cons ?_)
     · conv=>whnf
       repeat (refine aa.of ?_;conv=>whnf)
       refine bV.split (fun h=>?_) (fun h=>?_)
       · have hc1:c=1:=by
          simp[aN] at h
          omega
         have hne:ey (sB s a)≠0:=hgo _ (.inr hc1) rfl
         conv=>whnf
         repeat (refine aa.of ?_;conv=>whnf)
         refine ar.aj (ak.bE ae rfl rfl rfl c rfl (by omega) rfl ?_)
         conv=>whnf
         repeat (refine aa.of ?_;conv=>whnf)
         refine aM.aY ae rfl (b:=b7) (k:=256+c) (X:=E3) (by rw[iY,Nat.mul_one]) rfl (List.all_eq_true.1 (by rfl)) (by rw[hEl];show _+1≤380;omega) p1 ?_
         conv=>whnf
         repeat (refine aa.of ?_;conv=>whnf)
         refine ar.aj (ak.aT ae rfl rfl (ad:=⟨b7,0,none⟩) (k:=0) (L:=E3) (m:=E3) (aF.row (by simp)) rfl (by rw[List.drop_zero];exact List.take_of_length_le (by rw[hE3l];exact Nat.le_refl _)) hE3l ?_)
         conv=>whnf
         repeat (refine aa.of ?_;conv=>whnf)
         refine aw.pure hTo1 (fun w hw=>⟨hw.1.1.sh _,hw.1.2⟩) (fun v F hv=>?_)
         obtain⟨pr,cp,gr,ti,sp,wi,fh,al,pe,nw,rfl,hok',rfl⟩:=hv
         conv=>whnf
         repeat (refine aa.of ?_;conv=>whnf)
         refine aw.val (dv _ _ (ga _) hok') (fun w hw=>⟨hw.2.1,hw.1.2⟩) (fun v F hv=>?_)
         rw[js,decide_eq_false hne] at hv
         subst hv
         conv=>whnf
         repeat (refine aa.of ?_;conv=>whnf)
         refine⟨E3,hE3l,[0],⟨by decide,by simp,rfl⟩,?_,ao.of_le ⟨by simp[Fx.and],fun w hw=>hw.1⟩⟩
         repeat (first | exact ax.nil | refine ax.any ?_ | refine ax.cons ?_)
       · conv=>whnf
         repeat (refine aa.of ?_;conv=>whnf)
         refine⟨E,hEl,[0],⟨by decide,by simp,rfl⟩,?_,ao.of_le ⟨by simp,fun w hw=>hw⟩⟩
         repeat (first | exact ax.nil | refine ax.any ?_ | refine ax.cons ?_)
 · intro X hX bs' hbs'
   rw[aP]
   exact wm s hok hsm h0 w0 av a b E hEl hE1 g2 p2 br b7 X hX bs' hbs'
theorem pX (hA:ah Tryz.prog 7 [] bQ (fun v F=>v = .bool true)) (s:bH) (ho:s.qI) (hd : ∀ i,i<32→(s.T i).data.n≤140737488355328) (hfl:s.lk.fly.length≤4398046511104) (a b:Nat) :
 ah Tryz.prog 4 [.agg ⟨c8 s⟩,.agg ⟨[.int .u8 a,.int .u8 b]⟩] (fun w=>(s.Rows w∧s.nw.At aQ w)∧bQ w) (fun v F=>v = .bool true):=by
 have hF:=ve s ho hd
 have hEl:(c8 s).length=380:=fG s
 have hE1 : ∀ v∈c8 s,aV v=true:=pd s
 obtain⟨Z,hZ⟩ : ∃ Z,c8 iW=Z:=⟨_,rfl⟩
 obtain⟨E,hE⟩ : ∃ E,c8 s=E:=⟨_,rfl⟩
 rw[hE] at hEl hE1 hF
 rw[hE]
 have hZl:Z.length=380:=by rw[← hZ];exact fG _
 have hcA:IntKind.i64.wrap (1+IntKind.i64.wrap ((a:Int).tmod 10))=((1+a%10:Nat):Int):=sZ (m:=10) (c:=1) (by decide) (by decide) (by decide)
 refine ah.f_ ae Tryz.func4 (c:=lJ) rfl (by decide) (n:=Tryz.f4.ntmps - 2) rfl fun w0 av=>?_
 show az Tryz.prog w0 (fun _ _=>False) av lJ _ [] [] _ sj
 refine az.bT ae 5 (ι:=Nat×Nat) (fun x=>(fY s 32≤3000∧s.pe.l.length≤40)∧ey s=0) (fun x=>x9 x.1 x.2 ((1+a%10:Nat):Int)) (fun _=>[[.int .u8 (a:Int),.int .u8 (b:Int)]])
  (fun x=>⟨fun w=>(s.Rows w∧s.nw.At aQ w)∧bQ w,[(x.1,Row.c E)] ++ [(x.2,Row.c E)] ++ []⟩) ?_ ?_
 · conv=>whnf
   repeat (refine aa.of ?_;conv=>whnf)
   refine ar.cz fun br=>?_
   conv=>whnf
   repeat (refine aa.of ?_;conv=>whnf)
   intro b3
   conv=>whnf
   repeat (refine aa.of ?_;conv=>whnf)
   repeat' (first
    | (refine And.intro ?_ ?_<;>conv=>whnf)
    | (refine an.same rfl ?_;conv=>whnf)
    | (refine an.row rfl ?_;conv=>whnf)
    | (refine an.call rfl ?_;conv=>whnf)
    | (refine aS.of ?_;conv=>whnf)
    | (refine aa.of ?_;conv=>whnf)
    | (refine aw.val hA (fun w hw=>hw.2) (fun v D hv=>?_);subst hv;conv=>whnf)
    | (refine aw.val hF (fun w hw=>hw.1.1) (fun v D hv=>?_);obtain⟨q,rfl,hq⟩:=hv;conv=>whnf)
    | (refine ar.aj (ak.aT ae rfl rfl (ad:=⟨br,0,none⟩) (k:=0) (L:=E) (m:=E) (aF.row (by simp[Fx.and])) rfl (by rw[List.drop_zero];exact List.take_of_length_le (by rw[hEl];exact Nat.le_refl _)) hEl ?_);conv=>whnf)
    | (refine an.mk ?_ ?_;(focus (first | exact ao.refl _ | exact ao.left _ _ | exact ao.of_le ⟨List.sublist_append_left _ _,fun w h=>h⟩ | exact ao.of_le ⟨List.Sublist.refl _,fun w h=>h.1⟩));conv=>whnf))
   cases q
   · repeat' (first
      | (refine And.intro ?_ ?_<;>conv=>whnf)
      | (refine an.same rfl ?_;conv=>whnf)
      | (refine an.row rfl ?_;conv=>whnf)
      | (refine an.call rfl ?_;conv=>whnf)
      | (refine aS.of ?_;conv=>whnf)
      | (refine aa.of ?_;conv=>whnf)
      | (refine aw.val hA (fun w hw=>hw.2) (fun v D hv=>?_);subst hv;conv=>whnf)
      | (refine an.mk ?_ ?_;(focus (first | exact ao.refl _ | exact ao.left _ _ | exact ao.of_le ⟨List.sublist_append_left _ _,fun w h=>h⟩ | exact ao.of_le ⟨List.Sublist.refl _,fun w h=>h.1⟩));conv=>whnf))
     exact⟨_,ao.refl _,rfl⟩
   obtain⟨hq1,hq2⟩:=hq rfl
   have hok:=ho.ok hq1
   have hsm:=ho.small hq1 hq2 hfl
   have hTo:=o_ s hok hsm
   rw[hE] at hTo
   conv=>whnf
   repeat (refine aa.of ?_;conv=>whnf)
   repeat' (first
    | (refine And.intro ?_ ?_<;>conv=>whnf)
    | (refine an.same rfl ?_;conv=>whnf)
    | (refine an.row rfl ?_;conv=>whnf)
    | (refine an.call rfl ?_;conv=>whnf)
    | (refine aS.of ?_;conv=>whnf)
    | (refine aa.of ?_;conv=>whnf)
    | (refine ar.aj (ak.aT ae rfl rfl (ad:=⟨br,0,none⟩) (k:=0) (L:=E) (m:=E) (aF.row (by simp[Fx.and])) rfl (by rw[List.drop_zero];exact List.take_of_length_le (by rw[hEl];exact Nat.le_refl _)) hEl ?_);conv=>whnf)
    | (refine aw.pure hTo (fun w hw=>hw.1) (fun v F hv=>?_);obtain⟨pr,cp,gr,ti,sp,wi,fh,al,pe,nw,rfl,hok',rfl⟩:=hv;conv=>whnf)
    | (refine aw.val (dv _ _ (ga _) hok') (fun w hw=>⟨hw.2.1,hw.1.2⟩) (fun v F hv=>?_);rw[js] at hv;subst hv;conv=>whnf)
    | (refine an.mk ?_ ?_;(focus (first | exact ao.refl _ | exact ao.left _ _ | exact ao.of_le ⟨List.sublist_append_left _ _,fun w h=>h⟩ | exact ao.of_le ⟨List.Sublist.refl _,fun w h=>h.1⟩));conv=>whnf))
   obtain⟨d,hdc⟩ : ∃ d,decide (ey s=0)=d:=⟨_,rfl⟩
   rw[hdc]
   cases d
   · conv=>whnf
     repeat (refine aa.of ?_;conv=>whnf)
     exact⟨_,ao.refl _,rfl⟩
   have h0:ey s=0:=of_decide_eq_true hdc
   conv=>whnf
   repeat (refine aa.of ?_;conv=>whnf)
   repeat' (first
    | (refine And.intro ?_ ?_<;>conv=>whnf)
    | (refine an.same rfl ?_;conv=>whnf)
    | (refine an.row rfl ?_;conv=>whnf)
    | (refine an.call rfl ?_;conv=>whnf)
    | (refine aS.of ?_;conv=>whnf)
    | (refine aa.of ?_;conv=>whnf)
    | (refine ar.aj (ak.aT ae rfl rfl (ad:=⟨br,0,none⟩) (k:=0) (L:=E) (m:=E) (aF.row (by simp[Fx.and])) rfl (by rw[List.drop_zero];exact List.take_of_length_le (by rw[hEl];exact Nat.le_refl _)) hEl ?_);conv=>whnf)
    | (refine an.mk ?_ ?_;(focus (first | exact ao.refl _ | exact ao.left _ _ | exact ao.of_le ⟨List.sublist_append_left _ _,fun w h=>h⟩ | exact ao.of_le ⟨List.Sublist.refl _,fun w h=>h.1⟩));conv=>whnf))
   refine ar.cW ae rfl (z:=Z) (by rw[← hZ];kernel_rfl) fun b7=>?_
   conv=>whnf
   repeat (refine aa.of ?_;conv=>whnf)
   refine aM.bJ (F':=⟨fun w=>(s.Rows w∧s.nw.At aQ w)∧bQ w,[(br,Row.c E)] ++ [(b7,Row.c Z)] ++ []⟩) (ao.of_le ⟨by simp[Fx.and],fun w hw=>hw.1⟩) ?_
   refine aM.aY ae rfl (b:=b7) (k:=0) (X:=E) rfl (by exact hEl) (by exact hE1) (by rw[hZl];exact Nat.le_refl _) (cw (by rw[hZl];exact hEl)) ?_
   conv=>whnf
   repeat (refine aa.of ?_;conv=>whnf)
   refine⟨(br,b7),⟨⟨hq1,hq2⟩,h0⟩,[0],⟨by decide,by simp,rfl⟩,?_,ao.refl _⟩
   repeat (first | exact ax.nil | refine ax.any ?_ | refine ax.cons ?_ | exact ax.eq (congrArg (fun z=>SV.v (Value.int .i64 z)) hcA) ?_ | refine ax.eq (congrArg (fun z=>SV.v (Value.int .i64 z)) hcA) ?_)
 · intro x hx bs' hbs'
   obtain⟨⟨hq1,hq2⟩,h0⟩:=hx
   exact xj s (ho.ok hq1) (ho.small hq1 hq2 hfl) h0 w0 av a b E hE x.1 x.2 bs' hbs'
end Go.Proofs.YtlnhdpjnlffaoaaGreatDoor
