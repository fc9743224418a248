/- Parts of the proof: AdN, AdE, AdY, AdG, AdH, AdI, AdJ, AbT, AbU, AbV, AdO, AdP, AdU. -/
import Derived.Test.YtlnhdpjnlffaoaaGreatDoorQQ
import Derived.Test.YtlnhdpjnlffaoaaGreatDoorQR
import Derived.Test.YtlnhdpjnlffaoaaGreatDoorQO
import Derived.Test.YtlnhdpjnlffaoaaGreatDoorQP
import Derived.Test.YtlnhdpjnlffaoaaGreatDoorQL
import Derived.Test.YtlnhdpjnlffaoaaGreatDoorTie
import Derived.Test.YtlnhdpjnlffaoaaGreatDoorCards
import Derived.ProofKit
import Derived.OpenShut
import Derived.LaidMore
import Derived.Lay
import Derived.SevenTiedAt
import Derived.Stop.Joined
import Derived.ChangeMaps5
namespace Go.Proofs.YtlnhdpjnlffaoaaGreatDoor
open Go Go.Sx
set_option maxRecDepth 100000
set_option maxHeartbeats 4000000
set_option linter.unusedVariables false
set_option linter.unusedSimpArgs false
def Ca:List Int:=oX 10 ++ [16]
def Bt.DE (x:Bt) (hq:Hd) (w:World):Prop:=(((x.cp.At bx w∧x.ti.At cu w)∧ai w hq.a (Ca.map bH))∧x.pg.As du w)∧x.bk.As du w
def xg (nx:Int) (cl:List Cp) (v:Value) (F:Fx):Prop:=∃ (x:Bt) (hq:Hd),x.nx=nx∧x.cp.l=cl∧x.ti.l=qb∧x.Ok∧hq.Ok 11∧v = .agg ⟨aT (x.pR dE ⟨hq,Ca⟩)⟩∧F=⟨x.DE hq,[]⟩
theorem kW {h:Hd} {n:Nat} (hh:h.Ok n) (hn:0<n) : ∃ a c,h=⟨some a,c⟩∧n≤c:=by
 obtain⟨_ | a,c⟩:=h
 · have:=hh.nil rfl
   omega
 · exact⟨a,c,rfl,hh.cap⟩
theorem vT (nx:Int) (cl:List Cp) (hcl0:0<cl.length) (hcl:cl.length≤1000) (x:Bt) (hq:Hd) (bk bs:Nat) (h1:x.nx=nx) (h2:x.cp.l=cl) (h3:x.ti.l=qb) (hx:x.Ok) (hhq:hq.Ok 11) :
 af Tryz.prog 15 [.pointer (some ⟨bk,0,none⟩)] (fun w=>((x.At w∧ai w hq.a ((oX 10 ++ [16]).map bH))∧ai w (some ⟨bs,0,none⟩) (aT (x.pR dE ⟨hq,oX 10 ++ [16]⟩)))∧ai w (some ⟨bk,0,none⟩) [.pointer (some ⟨bs,0,none⟩)])
  (xg nx cl):=by
 obtain⟨nx',⟨hc,cl'⟩,⟨ht,tl⟩,⟨hp,pl⟩,⟨hb,bl⟩⟩:=x
 dsimp only at h1 h2 h3
 subst h1 h2 h3
 obtain⟨o1,o2,o3,o4,o5,o6⟩:=hx
 dsimp only at o1 o2 o3 o4 o5 o6
 obtain⟨a1,c1,rfl,g1⟩:=kW o1 hcl0
 obtain⟨a2,c2,rfl,g2⟩:=kW o2 (by decide)
 obtain⟨a3,c3,rfl,g3⟩:=kW o3 (by rw[o5.1];decide)
 obtain⟨a4,c4,rfl,g4⟩:=kW o4 (by rw[o6.1];decide)
 obtain⟨aq,cq,rfl,gq⟩:=kW hhq (by decide)
 rw[o5.1] at g3
 rw[o6.1] at g4
 obtain⟨ql,hql⟩ : ∃ ql,oX 10 ++ [16]=ql:=⟨_,rfl⟩
 have hqle:Ca=ql:=hql
 have hqll:ql.length=11:=by rw[← hql];decide
 rw[hql]
 have hZl:(aT kS).length=376:=ba _
 have key : ∀ (Z:List Value) (w0:World) (av:Nat→Prop) (b2 b3:Nat),Z.length=376→dP 3 (xg nx' cl') (aT (Bt.pR ⟨nx',⟨⟨some a1,c1⟩,cl'⟩,⟨⟨some a2,c2⟩,qb⟩,⟨⟨some a3,c3⟩,pl⟩,⟨⟨some a4,c4⟩,bl⟩⟩ dE ⟨⟨some aq,cq⟩,ql⟩)) Z
  (fun w=>Bt.At ⟨nx',⟨⟨some a1,c1⟩,cl'⟩,⟨⟨some a2,c2⟩,qb⟩,⟨⟨some a3,c3⟩,pl⟩,⟨⟨some a4,c4⟩,bl⟩⟩ w∧ai w (some aq) (ql.map bH)) w0 av b2 b3:=by
  intro Z w0 av b2 b3 hZ
  refine EM (ji _ _) (EY (ji _ _) (EN (ji _ _) ?_))
  refine EJ nx' a1 c1 cl' a2 c2 qb aq cq ql _ _ hcl (by decide) (by omega) _ (fun k1 k2 kq hk1 hk2 hkq=>?_) (fun w hw=>⟨hw.1.1,hw.1.2.1,hw.2⟩)
  have s7:=EW (Rel:=xg nx' cl') (Z:=Z) (w0:=w0) (av:=av) (b2:=b2) (b3:=b3) nx' ⟨k1,cl'⟩ ⟨k2,qb⟩ ⟨kq,ql⟩ a3 c3 pl a4 c4 bl o5 o6 g3 g4 (fun w=>(ai w k1.a (cl'.flatMap bx)∧ai w k2.a (qb.flatMap cu))∧ai w kq.a (ql.map bH)) (fun a3' c3' pl' a4' c4' bl' z1 z2 z3 z4=>?_)
  · unfold dP at s7 ⊢
    refine az.bZ ?_ s7
    refine ax.of_le ⟨List.Sublist.refl _,fun w hw=>?_⟩
    obtain⟨⟨⟨⟨⟨e1,e2,e3,e4⟩,e5⟩,e6⟩,e7⟩,e8⟩:=hw
    exact⟨⟨⟨⟨e6,e7⟩,e8⟩,e3⟩,e4⟩
  have hO:=ji ⟨nx',⟨k1,cl'⟩,⟨k2,qb⟩,⟨⟨some a3',c3'⟩,pl'⟩,⟨⟨some a4',c4'⟩,bl'⟩⟩ ⟨kq,ql⟩
  refine EP hO (EO hO (D_ hO (DY hO (DO hO (Ef hO (Ez hO hZ ?_))))))
  refine⟨⟨nx',⟨k1,cl'⟩,⟨k2,qb⟩,⟨⟨some a3',c3'⟩,pl'⟩,⟨⟨some a4',c4'⟩,bl'⟩⟩,kq,rfl,rfl,rfl,⟨hk1,hk2,⟨fun h=>(by cases h),by rw[z1.1];exact z3⟩,⟨fun h=>(by cases h),by rw[z2.1];exact z4⟩,z1,z2⟩,by rw[← hqll];exact hkq,by rw[hqle],?_⟩
  unfold Bt.DE
  rw[hqle]
  rfl
 obtain⟨S,hS⟩ : ∃ S,aT (Bt.pR ⟨nx',⟨⟨some a1,c1⟩,cl'⟩,⟨⟨some a2,c2⟩,qb⟩,⟨⟨some a3,c3⟩,pl⟩,⟨⟨some a4,c4⟩,bl⟩⟩ dE ⟨⟨some aq,cq⟩,ql⟩)=S:=⟨_,rfl⟩
 obtain⟨Z,hZ⟩ : ∃ Z,aT kS=Z:=⟨_,rfl⟩
 have hSl:S.length=376:=by rw[← hS];exact ba _
 have hS1 : ∀ v∈S,a7 v=true:=by rw[← hS];exact fT _
 rw[hS] at key ⊢
 rw[hZ] at hZl
 refine af.iL ae Tryz.func15 (c:=vP) rfl (by decide) (n:=Tryz.f15.ntmps - 1) rfl fun w0 av=>?_
 show az Tryz.prog w0 (fun _ _=>False) av vP _ [] [] _ (BY (xg nx' cl'))
 refine az.cr ae 3 (ι:=Nat×Nat) (fun _=>True) (fun x=>kZ x.1 x.2) (fun _=>[]) (fun x=>⟨fun w=>Bt.At ⟨nx',⟨⟨some a1,c1⟩,cl'⟩,⟨⟨some a2,c2⟩,qb⟩,⟨⟨some a3,c3⟩,pl⟩,⟨⟨some a4,c4⟩,bl⟩⟩ w∧ai w (some aq) (ql.map bH),[(x.1,Row.c Z),(x.2,Row.c S)]⟩) ?_ ?_
 · conv=>whnf
   repeat (refine aa.of ?_;conv=>whnf)
   refine ar.cT ae rfl (z:=Z) (by rw[← hZ];kernel_rfl) fun b2=>?_
   conv=>whnf
   repeat (refine aa.of ?_;conv=>whnf)
   refine ar.aj (ak.zb ae (t:=142) rfl rfl ?_)
   conv=>whnf
   repeat (refine aa.of ?_;conv=>whnf)
   refine ar.aj (ak.aH ae rfl rfl (ad:=⟨bk,0,none⟩) (k:=0) (L:=[.pointer (some ⟨bs,0,none⟩)]) (v:=.pointer (some ⟨bs,0,none⟩)) (.fact fun w hw=>hw.2) (fun _=>rfl) rfl ?_)
   conv=>whnf
   repeat (refine aa.of ?_;conv=>whnf)
   refine ar.aj (ak.aQ ae rfl rfl (ad:=⟨bs,0,none⟩) (k:=0) (L:=S) (m:=S) (.fact fun w hw=>hw.1.2) rfl (by rw[List.drop_zero];exact List.take_of_length_le (by rw[hSl];exact Nat.le_refl _)) hSl ?_)
   conv=>whnf
   repeat (refine aa.of ?_;conv=>whnf)
   refine ar.cT ae rfl (z:=Z) (by rw[← hZ];kernel_rfl) fun b3=>?_
   conv=>whnf
   repeat (refine aa.of ?_;conv=>whnf)
   refine aP.bZ (F':=⟨fun w=>Bt.At ⟨nx',⟨⟨some a1,c1⟩,cl'⟩,⟨⟨some a2,c2⟩,qb⟩,⟨⟨some a3,c3⟩,pl⟩,⟨⟨some a4,c4⟩,bl⟩⟩ w∧ai w (some aq) (ql.map bH),[(b2,Row.c Z)] ++ [(b3,Row.c Z)] ++ []⟩) (ax.of_le ⟨by simp,fun w hw=>hw.1.1⟩) ?_
   refine aP.aX ae rfl (b:=b3) (k:=0) (X:=S) rfl (by exact hSl) (by exact hS1) (by rw[hZl];exact Nat.le_refl _) (bP (by rw[hZl];exact hSl)) ?_
   conv=>whnf
   repeat (refine aa.of ?_;conv=>whnf)
   refine⟨(b2,b3),trivial,[],⟨by decide,by simp,rfl⟩,?_,ax.of_le ⟨by simp,fun w hw=>hw⟩⟩
   repeat (first | exact au.nil | refine au.any ?_ | refine au.cons ?_)
 · intro x _ bs' hbs'
   obtain rfl:=List.eq_nil_of_length_eq_zero hbs'
   exact key Z w0 av x.1 x.2 hZl
structure Ln where
 a:Int
 b:Int
 c:Int
 l:List Int
 deriving Inhabited,DecidableEq
def bt (n:Int):Value:=.int .i64 n
def yf (x:Ln) (h:Hd):List Value:=[bt x.a,bt x.b,bt x.c,h.v x.l.length]
def bu:List Ln:=[⟨1,3,1,[]⟩,⟨1,4,1,[]⟩,⟨1,5,1,[]⟩,⟨1,10,1,[]⟩,⟨1,2,6,[1]⟩,⟨1,3,6,[1]⟩,⟨1,4,6,[1]⟩,⟨1,5,6,[1]⟩,⟨1,6,6,[1]⟩,⟨1,7,6,[1]⟩,⟨1,8,6,[1]⟩,⟨1,9,6,[1]⟩,⟨1,10,6,[1]⟩,⟨1,1,7,[2,3,4,5,6,7,8,9,10]⟩,⟨1,4,8,[3]⟩,⟨1,4,9,[3]⟩,⟨1,4,10,[3]⟩,⟨1,3,11,[4]⟩,⟨1,5,12,[3]⟩,⟨1,5,13,[3]⟩,⟨1,5,14,[3]⟩,⟨1,3,15,[5]⟩,⟨1,10,16,[3]⟩,⟨1,3,17,[10]⟩,⟨1,6,18,[5]⟩,⟨1,5,19,[6]⟩,⟨1,7,20,[4,6]⟩,⟨1,4,21,[7]⟩,⟨1,6,21,[7]⟩,⟨1,9,22,[5]⟩,⟨1,5,23,[9]⟩,⟨1,8,24,[5]⟩,⟨1,5,25,[8]⟩,⟨1,2,26,[1,2,3,4,5,6,7,8,9,10]⟩,⟨1,1,27,[2]⟩,⟨1,2,27,[2]⟩,⟨1,3,27,[2]⟩,⟨1,4,27,[2]⟩,⟨1,5,27,[2]⟩,⟨1,6,27,[2]⟩,⟨1,7,27,[2]⟩,⟨1,8,27,[2]⟩,⟨1,9,27,[2]⟩,⟨1,10,27,[2]⟩,⟨2,0,1,[1,2,3,4,5,6,7,8,9,10]⟩,⟨2,0,2,[3,4,5,10]⟩,⟨2,0,3,[7,8,9]⟩,⟨2,0,4,[1,2,3,4,5,6,7,8,9,10]⟩,⟨2,0,5,[4]⟩,⟨2,0,6,[4]⟩,⟨2,0,7,[4]⟩,⟨2,0,8,[4]⟩,⟨2,0,9,[4]⟩,⟨2,0,10,[4]⟩,⟨2,0,11,[3]⟩,⟨2,0,12,[3]⟩,⟨2,0,13,[3]⟩,⟨2,0,14,[3]⟩,⟨2,0,15,[5]⟩,⟨2,0,16,[1]⟩,⟨3,0,1,[7]⟩,⟨3,0,2,[8]⟩,⟨3,0,3,[9]⟩]
def nz (x:Ln×Hd):List Value:=yf x.1 x.2
def cF (P:List (Ln×Hd)) (w:World):Prop:=∀ x∈P,ai w x.2.a (x.1.l.map bt)
structure PG (k:Nat) (P:List (Ln×Hd)) (a:Option Addr) (cap:Nat) (C:List Value):Prop where
 own:Sx.cZ 4 P.length a cap C (P.flatMap nz)
 ok : ∀ x∈P,x.2.Ok x.1.l.length
 eq:P.map Prod.fst=bu.take k
 lt:k≤63
theorem PG.len {k:Nat} {P:List (Ln×Hd)} {a:Option Addr} {cap:Nat} {C:List Value} (h:PG k P a cap C):P.length=k:=by
 have:=congrArg List.length h.eq
 rw[List.length_map,List.length_take] at this
 have h1:bu.length=63:=by decide
 have:=h.lt
 omega
theorem PG.next {k:Nat} {P:List (Ln×Hd)} {a:Option Addr} {cap:Nat} {C:List Value} (h:PG k P a cap C) {x:Ln} {hd:Hd} (hx:bu[k]? = some x) (hh:hd.Ok x.l.length) {a':Option Addr} {cap':Nat} {C':List Value} (hO:Sx.cZ 4 (P.length+1) a' cap' C' (P.flatMap nz++yf x hd)):PG (k+1) (P ++ [(x,hd)]) a' cap' C':=by
 have hk:k<bu.length:=(List.getElem?_eq_some_iff.1 hx).1
 refine⟨?_,fun y hy=>?_,?_,?_⟩
 · rw[List.length_append,List.flatMap_append]
   simpa [nz] using hO
 · rcases List.mem_append.1 hy with h1 | h1
   · exact h.ok y h1
   · rw[List.mem_singleton] at h1
     rw[h1]
     exact hh
 · rw[List.map_append,h.eq,List.take_add_one,hx]
   rfl
 · have h1:bu.length=63:=by decide
   omega
theorem cF.next {P:List (Ln×Hd)} {w:World} (h:cF P w) {x:Ln} {hd:Hd} (hr:ai w hd.a (x.l.map bt)):cF (P ++ [(x,hd)]) w:=by
 intro y hy
 rcases List.mem_append.1 hy with h1 | h1
 · exact h y h1
 · rw[List.mem_singleton] at h1
   rw[h1]
   exact hr
theorem ax.bf {D:World→Prop} {b:Nat} {C:List Value} {rs:List (Nat×Row)}:ax ⟨D,rs ++ [(b,Row.c C)]⟩ ⟨fun w=>D w∧ai w (some ⟨b,0,none⟩) C,rs⟩:=
 ax.trans (ax.perm List.perm_append_comm) ax.share1
theorem AW {a:Option Addr} {C:List Value} : ∀ r∈bo a C,CM r.2:=by
 intro r hr
 unfold bo at hr
 split at hr
 · cases hr
 · rw[List.mem_singleton] at hr
   subst hr
   exact Dm _
def aF (b1 n:Nat) (a:Option Addr) (cap:Nat) (C:List Value):List (Nat×Row):=[(b1,Row.c [.slice a n cap])]++bo a C
theorem me {b1 n:Nat} {a:Option Addr} {cap:Nat} {C:List Value} : ∀ r∈aF b1 n a cap C,CM r.2:=by
 intro r hr
 unfold aF at hr
 rcases List.mem_append.1 hr with h | h
 · rw[List.mem_singleton] at h
   subst h
   exact Dm _
 · exact AW r h
theorem cd (b1 n:Nat) (a:Option Addr) (cap:Nat) (C M:List Value) (hO:Sx.cZ 4 n a cap C M) (hn:n≤1000) (kind to:Int) (v:Value) (hv:v.cells.toList = [v]∧a7 v=true∧∃ h m,v=Hd.v h m) :
 dh Tryz.prog 140 [.pointer (some ⟨b1,0,none⟩),.int .i64 kind,.int .i64 to,v] (aF b1 n a cap C) (fun _=>True)
  (fun _ F=>∃ a' cap' C',Sx.cZ 4 (n+1) a' cap' C' (M ++ [bt 1,bt to,bt kind,v])∧F=⟨fun _=>True,aF b1 (n+1) a' cap' C'⟩):=by
 obtain⟨-,-,⟨ha,hc⟩,m,rfl⟩:=hv
 refine dh.aG ae Tryz.func140 rfl (by decide) (n:=Tryz.f140.ntmps - 4) rfl rfl me fun w0 av=>?_
 conv=>whnf
 repeat (refine aa.of ?_;conv=>whnf)
 refine ar.aj (ak.aH ae rfl rfl (ad:=⟨b1,0,none⟩) (k:=0) (L:=[.slice a n cap]) (v:=.slice a n cap) (aK.row (by simp[aF])) (fun _=>rfl) rfl ?_)
 conv=>whnf
 repeat (refine aa.of ?_;conv=>whnf)
 refine ar.build ae rfl rfl rfl [.agg ⟨[bt 1,bt to,bt kind,.slice ha m hc]⟩] rfl rfl (by simp[Value.cells]) (by decide) fun b5=>?_
 conv=>whnf
 repeat (refine aa.of ?_;conv=>whnf)
 refine ar.bZ (F':=⟨fun _=>True,[(b1,Row.c [.slice a n cap])]++bo a C ++ [(b5,Row.c [bt 1,bt to,bt kind,.slice ha m hc])]⟩) (ax.of_le ⟨by simp[Value.cells,aF],fun w hw=>hw⟩) ?_
 refine ar.fk ae rfl rfl rfl rfl rfl rfl (M:=[bt 1,bt to,bt kind,.slice ha m hc]) hO (aK.row (by simp)) rfl (List.all_eq_true.1 (by rfl)) (by omega) (by show(n+n/4+600)*48≤2 ^ 48;omega) fun a' c' C' hO'=>?_
 conv=>whnf
 repeat (refine aa.of ?_;conv=>whnf)
 refine aP.bZ (F':=⟨fun _=>True,[] ++ [(b1,Row.c [.slice a n cap])]++bo a' C'⟩) (ax.of_le ⟨by simp,fun w hw=>hw⟩) ?_
 refine aP.aX ae rfl (b:=b1) (k:=0) (X:=[.slice a' (n+1) c']) rfl rfl (List.all_eq_true.1 (by rfl)) (Nat.le_refl _) rfl ?_
 conv=>whnf
 repeat (refine aa.of ?_;conv=>whnf)
 exact⟨_,ax.refl _,a',c',C',hO',rfl⟩
def ct (f:Nat):List Int:=(List.range (11 - f)).map fun i=>((f+i:Nat):Int)
theorem dI (f:Nat) (hf:f≤10):af Tryz.prog 141 [.int .i64 (f:Int)] (fun _=>True) (fun v F=>∃ h:Hd,h.Ok (ct f).length∧v=h.v (ct f).length∧F=⟨fun w=>ai w h.a ((ct f).map bt),[]⟩):=by
 refine af.aG ae Tryz.func141 rfl (by decide) (n:=Tryz.f141.ntmps - 1) rfl rfl fun w0 av=>?_
 conv=>whnf
 repeat (refine aa.of ?_;conv=>whnf)
 refine az.loop ae (ι:=Nat×Option Addr×Nat×List Value) ([3,4]++List.range' 6 8) (fun x=>x.1≤11 - f∧Sx.cZ 1 x.1 x.2.1 x.2.2.1 x.2.2.2 (((List.range x.1).map fun i=>((f+i:Nat):Int)).map bt))
  (fun x=>[(4,.v (.int .i64 ((f+x.1:Nat):Int))),(3,.v (.slice x.2.1 x.1 x.2.2.1))]) (fun _=>[]) (fun x=>⟨fun _=>True,[]++bo x.2.1 x.2.2.2 ++ []⟩)
  (fun x=>11 - f - x.1) (0,none,0,[]) ⟨Nat.zero_le _,Sx.cZ.nil 1⟩ ?_ rfl (ax.of_le ⟨by simp[bo],fun w hw=>hw⟩) fun x hx=>?_
 · conv=>whnf
   repeat (first | exact au.nil | refine au.any ?_ | refine au.cons ?_)
 obtain⟨i,a,cap,C⟩:=x
 obtain⟨hi,hO⟩:=hx
 dsimp only at hi hO ⊢
 conv=>whnf
 repeat (refine aa.of ?_;conv=>whnf)
 refine bF.split (fun hlt=>?_) (fun hlt=>?_)
 · have hlt':i<11 - f:=by
    simp[aC] at hlt
    omega
   conv=>whnf
   repeat (refine aa.of ?_;conv=>whnf)
   refine ar.build ae rfl rfl rfl [bt ((f+i:Nat):Int)] rfl rfl (by simp[Value.cells,bt]) (by decide) fun b5=>?_
   conv=>whnf
   repeat (refine aa.of ?_;conv=>whnf)
   refine ar.bZ (F':=⟨fun _=>True,[]++bo a C ++ [(b5,Row.c [bt ((f+i:Nat):Int)])]⟩) (ax.of_le ⟨by simp[Value.cells,bt],fun w hw=>hw⟩) ?_
   refine ar.fk ae rfl rfl rfl rfl rfl rfl (M:=[bt ((f+i:Nat):Int)]) hO (aK.row (by simp)) rfl (List.all_eq_true.1 (by rfl)) (by omega) (by show(i+i/4+600)*8≤2 ^ 48;omega) fun a' c' C' hO'=>?_
   conv=>whnf
   repeat (refine aa.of ?_;conv=>whnf)
   refine⟨(i+1,a',c',C'),⟨⟨hlt',?_⟩,by dsimp only;omega⟩,?_,?_,ax.of_le ⟨by simp,fun w hw=>hw⟩⟩
   · dsimp only
     rw[List.range_succ,List.map_append,List.map_append]
     exact hO'
   · conv=>whnf
     refine⟨?_,rfl⟩
     repeat (first | exact au.nil | refine au.any ?_ | refine au.cons ?_ | refine au.eq (congrArg (fun z=>SV.v (Value.int .i64 z)) (by rw[wrap_i64 (by omega)];omega)) ?_)
   · conv=>whnf
     exact trivial
 · have hie:i=11 - f:=by
    simp[aC] at hlt
    omega
   have hcl:(ct f).length=i:=by simp[ct,hie]
   have hce:((List.range i).map fun i=>((f+i:Nat):Int))=ct f:=by rw[hie];rfl
   conv=>whnf
   repeat (refine aa.of ?_;conv=>whnf)
   refine⟨_,ax.trans (hO.share (r1:=[]) (r2:=[])) (ax.imp (D':=fun w=>ai w a ((ct f).map bt)) fun w hw=>?_),⟨a,cap⟩,by rw[hcl];exact⟨hO.cJ,hO.fit⟩,by rw[hcl],rfl⟩
   rw[← hce]
   exact hw.2
theorem dF (b1 n:Nat) (a:Option Addr) (cap:Nat) (C M:List Value) (hO:Sx.cZ 4 n a cap C M) (hn:n≤1000) (h:Hd) (m:Nat) (kh:Hd) (ks:List Int) (hk:kh.Ok ks.length) (hkl:ks.length≤100) :
 dh Tryz.prog 142 [.pointer (some ⟨b1,0,none⟩),h.v m,kh.v ks.length] (aF b1 n a cap C) (fun w=>ai w kh.a (ks.map bt))
  (fun _ F=>∃ a' cap' C',Sx.cZ 4 (n+ks.length) a' cap' C' (M++ks.flatMap fun k=>[bt 2,bt 0,bt k,h.v m])∧F=⟨fun _=>True,aF b1 (n+ks.length) a' cap' C'⟩):=by
 refine dh.aG ae Tryz.func142 rfl (by decide) (n:=Tryz.f142.ntmps - 3) rfl rfl me fun w0 av=>?_
 conv=>whnf
 repeat (refine aa.of ?_;conv=>whnf)
 refine az.loop ae (ι:=Nat×Option Addr×Nat×List Value) ([7,10]++List.range' 11 15) (fun x=>x.1≤ks.length∧Sx.cZ 4 (n+x.1) x.2.1 x.2.2.1 x.2.2.2 (M++(ks.take x.1).flatMap fun k=>[bt 2,bt 0,bt k,h.v m]))
  (fun x=>[(10,.v (.int .i64 (x.1:Int)))]) (fun _=>[]) (fun x=>⟨fun w=>ai w kh.a (ks.map bt),aF b1 (n+x.1) x.2.1 x.2.2.1 x.2.2.2⟩)
  (fun x=>ks.length - x.1) (0,a,cap,C) ⟨Nat.zero_le _,by simpa using hO⟩ ?_ rfl (ax.refl _) fun x hx=>?_
 · conv=>whnf
   repeat (first | exact au.nil | refine au.any ?_ | refine au.cons ?_)
 obtain⟨i,a1,cap1,C1⟩:=x
 obtain⟨hi,hO1⟩:=hx
 dsimp only at hi hO1 ⊢
 conv=>whnf
 repeat (refine aa.of ?_;conv=>whnf)
 refine bF.split (fun hlt=>?_) (fun hlt=>?_)
 · have hlt':i<ks.length:=by
    simp[ao] at hlt
    omega
   conv=>whnf
   repeat (refine aa.of ?_;conv=>whnf)
   refine ar.aj (ak.index ae rfl rfl rfl (by omega) (by omega) hk.nil fun ad had=>?_)
   conv=>whnf
   repeat (refine aa.of ?_;conv=>whnf)
   refine ar.aj (ak.load ae rfl rfl (ad:=ad) (k:=i) (L:=ks.map bt) (v:=.int .i64 ks[i]) (.fact fun w hw=>had ▸ hw) (by simp) (by rw[List.getElem?_map,List.getElem?_eq_getElem hlt'];rfl) ?_)
   conv=>whnf
   repeat (refine aa.of ?_;conv=>whnf)
   refine ar.aj (ak.aH ae rfl rfl (ad:=⟨b1,0,none⟩) (k:=0) (L:=[.slice a1 (n+i) cap1]) (v:=.slice a1 (n+i) cap1) (aK.row (by simp[aF])) (fun _=>rfl) rfl ?_)
   conv=>whnf
   repeat (refine aa.of ?_;conv=>whnf)
   refine ar.build ae rfl rfl rfl [.agg ⟨[bt 2,bt 0,bt ks[i],h.v m]⟩] rfl rfl (by simp[Value.cells]) (by decide) fun b5=>?_
   conv=>whnf
   repeat (refine aa.of ?_;conv=>whnf)
   refine ar.bZ (F':=⟨fun w=>ai w kh.a (ks.map bt),[(b1,Row.c [.slice a1 (n+i) cap1])]++bo a1 C1 ++ [(b5,Row.c [bt 2,bt 0,bt ks[i],h.v m])]⟩) (ax.of_le ⟨by simp[Value.cells,aF],fun w hw=>hw⟩) ?_
   refine ar.fk ae rfl rfl rfl rfl rfl rfl (M:=[bt 2,bt 0,bt ks[i],h.v m]) hO1 (aK.row (by simp)) rfl (List.all_eq_true.1 (by rfl)) (by omega) (by show(n+i+(n+i)/4+600)*48≤2 ^ 48;omega) fun a' c' C' hO'=>?_
   conv=>whnf
   repeat (refine aa.of ?_;conv=>whnf)
   refine aP.bZ (F':=⟨fun w=>ai w kh.a (ks.map bt),[] ++ [(b1,Row.c [.slice a1 (n+i) cap1])]++bo a' C'⟩) (ax.of_le ⟨by simp,fun w hw=>hw⟩) ?_
   refine aP.aX ae rfl (b:=b1) (k:=0) (X:=[.slice a' (n+i+1) c']) rfl rfl (List.all_eq_true.1 (by rfl)) (Nat.le_refl _) rfl ?_
   conv=>whnf
   repeat (refine aa.of ?_;conv=>whnf)
   refine⟨(i+1,a',c',C'),⟨⟨hlt',?_⟩,by dsimp only;omega⟩,?_,?_,ax.refl _⟩
   · dsimp only
     rw[List.take_succ_eq_append_getElem hlt',List.flatMap_append,← List.append_assoc]
     show Sx.cZ 4 (n+i+1) _ _ _ _
     simpa using hO'
   · conv=>whnf
     refine⟨?_,rfl⟩
     repeat (first | exact au.nil | refine au.any ?_ | refine au.cons ?_ | refine au.eq (by rw[wrap_i64 (by omega)];rfl) ?_)
   · conv=>whnf
     exact trivial
 · have hie:i=ks.length:=by
    simp[ao] at hlt
    omega
   subst hie
   rw[List.take_length] at hO1
   conv=>whnf
   repeat (refine aa.of ?_;conv=>whnf)
   exact⟨⟨fun _=>True,aF b1 (n+ks.length) a1 cap1 C1⟩,ax.of_le ⟨List.Sublist.refl _,fun w hw=>trivial⟩,a1,cap1,C1,hO1,rfl⟩
noncomputable def rC:Code:=Tryz.f76.body.getD .skip
def eV (b1:Nat):List SV:=[.any,.v (.pointer (some ⟨b1,0,none⟩))]++List.replicate 135 .any
def u5 (b1:Nat) (hl:Hd):List SV:=[.any,.v (.pointer (some ⟨b1,0,none⟩)),.any,.any,.any,.any,.any,.any,.any,.any,.any,.any,.v (hl.v 10)]++List.replicate 124 .any
def BM (v:Value) (F:Fx):Prop:=∃ (P:List (Ln×Hd)) (a:Addr) (c:Nat),P.map Prod.fst=bu∧(∀ x∈P,x.2.Ok x.1.l.length)∧63≤c∧v = .slice (some a) 63 c∧F=⟨fun w=>ai w (some a) (P.flatMap nz)∧cF P w,[]⟩
noncomputable def yV:Exit→KT:=lz aY Tryz.f76.results.toList (eg BM)
def LA (n k:Nat) (w0:World) (av:Nat→Prop) (b1:Nat):Prop:=∀ a cap C P,PG k P a cap C→az Tryz.prog w0 (fun _ _=>False) av (cY n rC) (eV b1) [] [] ⟨cF P,[]++aF b1 k a cap C ++ []⟩ yV
def LB (n k:Nat) (w0:World) (av:Nat→Prop) (b1:Nat):Prop:=∀ hl a cap C P,hl.Ok 10→PG k P a cap C→az Tryz.prog w0 (fun _ _=>False) av (cY n rC) (u5 b1 hl) [] [] ⟨fun w=>cF P w∧ai w hl.a ((ct 1).map bt),[]++aF b1 k a cap C ++ []⟩ yV
section
variable {w0:World} {av:Nat→Prop} {b1:Nat}
theorem eA (h:Hd) (m:Nat):(h.v m).cells.toList = [h.v m]∧a7 (h.v m)=true∧∃ h' m',h.v m=Hd.v h' m':=⟨rfl,rfl,h,m,rfl⟩
theorem cm (b m:Nat):(⟨some ⟨b,0,none⟩,m⟩:Hd).Ok m:=⟨fun h=>(by cases h),Nat.le_refl _⟩
theorem EL (h:LA 3 4 w0 av b1):LA 2 0 w0 av b1:=by
 intro a cap C P g
 refine az.cr ae 1 (ι:=Option Addr×Nat×List Value×List (Ln×Hd)) (fun x=>PG 4 x.2.2.2 x.1 x.2.1 x.2.2.1) (fun _=>eV b1) (fun _=>[]) (fun x=>⟨cF x.2.2.2,[]++aF b1 4 x.1 x.2.1 x.2.2.1 ++ []⟩) ?_ ?_
 rotate_left
 · intro x hx bs' hbs'
   obtain rfl:=List.eq_nil_of_length_eq_zero hbs'
   rw[aS]
   exact h x.1 x.2.1 x.2.2.1 x.2.2.2 hx
 · conv=>whnf
   repeat (refine aa.of ?_;conv=>whnf)
   refine ar.build ae rfl rfl rfl [.int .i64 3,.int .i64 4,.int .i64 5,.int .i64 10] rfl rfl (by simp[Value.cells]) (by decide) fun bv=>?_
   conv=>whnf
   repeat (refine aa.of ?_;conv=>whnf)
   obtain⟨hv,hhv⟩ : ∃ hv:Hd,hv=⟨some ⟨bv,0,none⟩,4⟩:=⟨_,rfl⟩
   have hvo:hv.Ok 4:=by rw[hhv];exact cm _ _
   have hva:hv.a=some ⟨bv,0,none⟩:=by rw[hhv]
   obtain⟨L,hL⟩ : ∃ L:List Int,L = [3,4,5,10]:=⟨_,rfl⟩
   have hE:ax (⟨cF P,([]++aF b1 0 a cap C ++ []) ++ [(bv,Row.c [.int .i64 3,.int .i64 4,.int .i64 5,.int .i64 10])]⟩:Fx) ⟨fun w=>cF P w∧ai w hv.a (L.map bt),[]++aF b1 (0+0) a cap C ++ []⟩:=by rw[hhv,hL];exact ax.bf
   have hLl:L.length=4:=by rw[hL];decide
   have hLn : ∀ i,i<4→bu[0+i]? = some ⟨1,L[i]!,1,[]⟩:=by rw[hL];decide
   refine az.loop ae (ι:=Nat×Option Addr×Nat×List Value×List (Ln×Hd)) ([3,17]++List.range' 18 7) (fun x=>x.1≤4∧PG (0+x.1) x.2.2.2.2 x.2.1 x.2.2.1 x.2.2.2.1) (fun x=>[(17,.v (.int .i64 (x.1:Int)))]) (fun _=>[])
    (fun x=>⟨fun w=>cF x.2.2.2.2 w∧ai w hv.a (L.map bt),[]++aF b1 (0+x.1) x.2.1 x.2.2.1 x.2.2.2.1 ++ []⟩) (fun x=>4 - x.1) (0,a,cap,C,P) ⟨Nat.zero_le _,g⟩ ?_ rfl (ax.trans (ax.of_le ⟨by simp[Value.cells],fun w hw=>hw⟩) hE) fun x hx=>?_
   · conv=>whnf
     repeat (first | exact au.nil | refine au.any ?_ | refine au.cons ?_)
   clear g hE
   obtain⟨i,a,cap,C,P⟩:=x
   obtain⟨hi,g⟩:=hx
   dsimp only at hi g ⊢
   have hl:=g.len
   have hO:=g.own
   rw[hl] at hO
   conv=>whnf
   repeat (refine aa.of ?_;conv=>whnf)
   refine bF.split (fun hlt=>?_) (fun hlt=>?_)
   · have hlt':i<4:=by
      simp[ao] at hlt
      omega
     have hx:=hLn i hlt'
     have hLi:L[i]! = L[i]:=by simp[hLl,hlt']
     rw[hLi] at hx
     conv=>whnf
     repeat (refine aa.of ?_;conv=>whnf)
     refine ar.aj (ak.index ae rfl rfl rfl (by omega) (by omega) (fun h=>by cases h) fun ad had=>?_)
     conv=>whnf
     repeat (refine aa.of ?_;conv=>whnf)
     refine ar.aj (ak.load ae rfl rfl (ad:=ad) (k:=i) (L:=L.map bt) (v:=.int .i64 L[i]) (.fact fun w hw=>by rw[← had,← hva];exact hw.2) (by simp) (by rw[List.getElem?_map,List.getElem?_eq_getElem (by omega)];rfl) ?_)
     conv=>whnf
     repeat (refine aa.of ?_;conv=>whnf)
     refine aw.rows (cd b1 (0+i) a cap C _ hO (by omega) 1 L[i] (Hd.v Hd.nil 0) (eA _ _)) (fun w hw=>trivial) (fun v F hv'=>?_)
     obtain⟨a',c',C',hO',rfl⟩:=hv'
     conv=>whnf
     repeat (refine aa.of ?_;conv=>whnf)
     refine⟨(i+1,a',c',C',P ++ [(⟨1,L[i],1,[]⟩,Hd.nil)]),⟨⟨hlt',g.next hx Hd.ox (by rw[hl];exact hO')⟩,by dsimp only;omega⟩,?_,?_,ax.of_le ⟨by first | exact List.Sublist.refl _,fun w hw=>⟨hw.1.1.next (show ai w Hd.nil.a (([]:List Int).map bt) from rfl),hw.1.2⟩⟩⟩
     · conv=>whnf
       refine⟨?_,rfl⟩
       repeat (first | exact au.nil | refine au.any ?_ | refine au.cons ?_ | refine au.eq (by rw[wrap_i64 (by omega)];rfl) ?_)
     · conv=>whnf
       exact trivial
   · have hie:i=4:=by
      simp[ao] at hlt
      omega
     subst hie
     conv=>whnf
     repeat (refine aa.of ?_;conv=>whnf)
     refine⟨(a,cap,C,P),g,[],⟨by decide,by simp,rfl⟩,?_,ax.of_le ⟨List.Sublist.refl _,fun w hw=>hw.1⟩⟩
     repeat (first | exact au.nil | refine au.any ?_ | refine au.cons ?_)
theorem ER (h:LA 4 13 w0 av b1):LA 3 4 w0 av b1:=by
 intro a cap C P g
 refine az.cr ae 1 (ι:=Option Addr×Nat×List Value×List (Ln×Hd)) (fun x=>PG 13 x.2.2.2 x.1 x.2.1 x.2.2.1) (fun _=>eV b1) (fun _=>[]) (fun x=>⟨cF x.2.2.2,[]++aF b1 13 x.1 x.2.1 x.2.2.1 ++ []⟩) ?_ ?_
 rotate_left
 · intro x hx bs' hbs'
   obtain rfl:=List.eq_nil_of_length_eq_zero hbs'
   rw[aS]
   exact h x.1 x.2.1 x.2.2.1 x.2.2.2 hx
 · conv=>whnf
   repeat (refine aa.of ?_;conv=>whnf)
   refine aw.pure (dI 2 (by decide)) (fun w hw=>trivial) (fun v F hv=>?_)
   obtain⟨hv,hvo,rfl,rfl⟩:=hv
   conv=>whnf
   repeat (refine aa.of ?_;conv=>whnf)
   obtain⟨L,hL⟩ : ∃ L:List Int,L=ct 2:=⟨_,rfl⟩
   have hE:ax (⟨fun w=>cF P w∧ai w hv.a ((ct 2).map bt),[]++aF b1 4 a cap C ++ []⟩:Fx) ⟨fun w=>cF P w∧ai w hv.a (L.map bt),[]++aF b1 (4+0) a cap C ++ []⟩:=by rw[hL];exact ax.refl _
   have hLl:L.length=9:=by rw[hL];decide
   have hLn : ∀ i,i<9→bu[4+i]? = some ⟨1,L[i]!,6,[1]⟩:=by rw[hL];decide
   refine az.loop ae (ι:=Nat×Option Addr×Nat×List Value×List (Ln×Hd)) ([5,26]++List.range' 27 7) (fun x=>x.1≤9∧PG (4+x.1) x.2.2.2.2 x.2.1 x.2.2.1 x.2.2.2.1) (fun x=>[(26,.v (.int .i64 (x.1:Int)))]) (fun _=>[])
    (fun x=>⟨fun w=>cF x.2.2.2.2 w∧ai w hv.a (L.map bt),[]++aF b1 (4+x.1) x.2.1 x.2.2.1 x.2.2.2.1 ++ []⟩) (fun x=>9 - x.1) (0,a,cap,C,P) ⟨Nat.zero_le _,g⟩ ?_ rfl (ax.trans (ax.of_le (F':=⟨fun w=>cF P w∧ai w hv.a ((ct 2).map bt),[]++aF b1 4 a cap C ++ []⟩) ⟨by simp[Fx.and],fun w hw=>hw⟩) hE) fun x hx=>?_
   · conv=>whnf
     repeat (first | exact au.nil | refine au.any ?_ | refine au.cons ?_)
   clear g hE
   obtain⟨i,a,cap,C,P⟩:=x
   obtain⟨hi,g⟩:=hx
   dsimp only at hi g ⊢
   have hl:=g.len
   have hO:=g.own
   rw[hl] at hO
   conv=>whnf
   repeat (refine aa.of ?_;conv=>whnf)
   refine bF.split (fun hlt=>?_) (fun hlt=>?_)
   · have hlt':i<9:=by
      simp[ao,ct] at hlt
      omega
     have hx:=hLn i hlt'
     have hLi:L[i]! = L[i]:=by simp[hLl,hlt']
     rw[hLi] at hx
     conv=>whnf
     repeat (refine aa.of ?_;conv=>whnf)
     refine ar.aj (ak.index ae rfl rfl rfl (by omega) (by show(i:Int)<(((ct 2).length:Nat):Int);rw[← hL,hLl];omega) hvo.nil fun ad had=>?_)
     conv=>whnf
     repeat (refine aa.of ?_;conv=>whnf)
     refine ar.aj (ak.load ae rfl rfl (ad:=ad) (k:=i) (L:=L.map bt) (v:=.int .i64 L[i]) (.fact fun w hw=>had ▸ hw.2) (by simp) (by rw[List.getElem?_map,List.getElem?_eq_getElem (by omega)];rfl) ?_)
     conv=>whnf
     repeat (refine aa.of ?_;conv=>whnf)
     refine ar.build ae rfl rfl rfl [.int .i64 1] rfl rfl (by simp[Value.cells]) (by decide) fun bh=>?_
     conv=>whnf
     repeat (refine aa.of ?_;conv=>whnf)
     refine aw.bZ (F':=⟨fun w=>(cF P w∧ai w hv.a (L.map bt))∧ai w (some ⟨bh,0,none⟩) [.int .i64 1],[]++aF b1 (4+i) a cap C ++ []⟩) (ax.trans (ax.of_le (F':=⟨fun w=>cF P w∧ai w hv.a (L.map bt),([]++aF b1 (4+i) a cap C ++ []) ++ [(bh,Row.c [.int .i64 1])]⟩) ⟨by simp[Value.cells],fun w hw=>hw⟩) ax.bf) ?_
     refine aw.rows (cd b1 (4+i) a cap C _ hO (by omega) 6 L[i] (Hd.v ⟨some ⟨bh,0,none⟩,1⟩ 1) (eA _ _)) (fun w hw=>trivial) (fun v F hv'=>?_)
     obtain⟨a',c',C',hO',rfl⟩:=hv'
     conv=>whnf
     repeat (refine aa.of ?_;conv=>whnf)
     refine⟨(i+1,a',c',C',P ++ [(⟨1,L[i],6,[1]⟩,⟨some ⟨bh,0,none⟩,1⟩)]),⟨⟨hlt',g.next hx (cm _ _) (by rw[hl];exact hO')⟩,by dsimp only;omega⟩,?_,?_,ax.of_le ⟨by first | exact List.Sublist.refl _,fun w hw=>⟨hw.1.1.1.next hw.1.2,hw.1.1.2⟩⟩⟩
     · conv=>whnf
       refine⟨?_,rfl⟩
       repeat (first | exact au.nil | refine au.any ?_ | refine au.cons ?_ | refine au.eq (by rw[wrap_i64 (by omega)];rfl) ?_)
     · conv=>whnf
       exact trivial
   · have hie:i=9:=by
      simp[ao,ct] at hlt
      omega
     subst hie
     conv=>whnf
     repeat (refine aa.of ?_;conv=>whnf)
     refine⟨(a,cap,C,P),g,[],⟨by decide,by simp,rfl⟩,?_,ax.of_le ⟨List.Sublist.refl _,fun w hw=>hw.1⟩⟩
     repeat (first | exact au.nil | refine au.any ?_ | refine au.cons ?_)
theorem EF (h:LA 5 14 w0 av b1):LA 4 13 w0 av b1:=by
 intro a cap C P g
 refine az.cr ae 1 (ι:=Option Addr×Nat×List Value×List (Ln×Hd)) (fun x=>PG 14 x.2.2.2 x.1 x.2.1 x.2.2.1) (fun _=>eV b1) (fun _=>[]) (fun x=>⟨cF x.2.2.2,[]++aF b1 14 x.1 x.2.1 x.2.2.1 ++ []⟩) ?_ ?_
 rotate_left
 · intro x hx bs' hbs'
   obtain rfl:=List.eq_nil_of_length_eq_zero hbs'
   rw[aS]
   exact h x.1 x.2.1 x.2.2.1 x.2.2.2 hx
 · have hl:=g.len
   have hO:=g.own
   rw[hl] at hO
   conv=>whnf
   repeat (refine aa.of ?_;conv=>whnf)
   refine aw.pure (dI 2 (by decide)) (fun w hw=>trivial) (fun v F hv=>?_)
   obtain⟨hh,hho,rfl,rfl⟩:=hv
   conv=>whnf
   repeat (refine aa.of ?_;conv=>whnf)
   refine aw.bZ (F':=⟨fun w=>cF P w∧ai w hh.a ((ct 2).map bt),[]++aF b1 13 a cap C ++ []⟩) (ax.of_le ⟨by simp[Fx.and],fun w hw=>hw⟩) ?_
   refine aw.rows (cd b1 13 a cap C _ hO (by decide) 7 1 (Hd.v hh (ct 2).length) (eA _ _)) (fun w hw=>trivial) (fun v F hv=>?_)
   obtain⟨a',c',C',hO',rfl⟩:=hv
   conv=>whnf
   repeat (refine aa.of ?_;conv=>whnf)
   refine⟨(a',c',C',P ++ [(⟨1,1,7,ct 2⟩,hh)]),g.next rfl hho (by rw[hl];exact hO'),[],⟨by decide,by simp,rfl⟩,?_,ax.of_le ⟨by simp,fun w hw=>hw.1.1.next hw.1.2⟩⟩
   repeat (first | exact au.nil | refine au.any ?_ | refine au.cons ?_)
theorem ET (h:LA 6 17 w0 av b1):LA 5 14 w0 av b1:=by
 intro a cap C P g
 refine az.cr ae 1 (ι:=Option Addr×Nat×List Value×List (Ln×Hd)) (fun x=>PG 17 x.2.2.2 x.1 x.2.1 x.2.2.1) (fun _=>eV b1) (fun _=>[]) (fun x=>⟨cF x.2.2.2,[]++aF b1 17 x.1 x.2.1 x.2.2.1 ++ []⟩) ?_ ?_
 rotate_left
 · intro x hx bs' hbs'
   obtain rfl:=List.eq_nil_of_length_eq_zero hbs'
   rw[aS]
   exact h x.1 x.2.1 x.2.2.1 x.2.2.2 hx
 · conv=>whnf
   repeat (refine aa.of ?_;conv=>whnf)
   refine ar.build ae rfl rfl rfl [.int .i64 8,.int .i64 9,.int .i64 10] rfl rfl (by simp[Value.cells]) (by decide) fun bv=>?_
   conv=>whnf
   repeat (refine aa.of ?_;conv=>whnf)
   obtain⟨hv,hhv⟩ : ∃ hv:Hd,hv=⟨some ⟨bv,0,none⟩,3⟩:=⟨_,rfl⟩
   have hvo:hv.Ok 3:=by rw[hhv];exact cm _ _
   have hva:hv.a=some ⟨bv,0,none⟩:=by rw[hhv]
   obtain⟨L,hL⟩ : ∃ L:List Int,L = [8,9,10]:=⟨_,rfl⟩
   have hE:ax (⟨cF P,([]++aF b1 14 a cap C ++ []) ++ [(bv,Row.c [.int .i64 8,.int .i64 9,.int .i64 10])]⟩:Fx) ⟨fun w=>cF P w∧ai w hv.a (L.map bt),[]++aF b1 (14+0) a cap C ++ []⟩:=by rw[hhv,hL];exact ax.bf
   have hLl:L.length=3:=by rw[hL];decide
   have hLn : ∀ i,i<3→bu[14+i]? = some ⟨1,4,L[i]!,[3]⟩:=by rw[hL];decide
   refine az.loop ae (ι:=Nat×Option Addr×Nat×List Value×List (Ln×Hd)) ([7,38]++List.range' 39 7) (fun x=>x.1≤3∧PG (14+x.1) x.2.2.2.2 x.2.1 x.2.2.1 x.2.2.2.1) (fun x=>[(38,.v (.int .i64 (x.1:Int)))]) (fun _=>[])
    (fun x=>⟨fun w=>cF x.2.2.2.2 w∧ai w hv.a (L.map bt),[]++aF b1 (14+x.1) x.2.1 x.2.2.1 x.2.2.2.1 ++ []⟩) (fun x=>3 - x.1) (0,a,cap,C,P) ⟨Nat.zero_le _,g⟩ ?_ rfl (ax.trans (ax.of_le ⟨by simp[Value.cells],fun w hw=>hw⟩) hE) fun x hx=>?_
   · conv=>whnf
     repeat (first | exact au.nil | refine au.any ?_ | refine au.cons ?_)
   clear g hE
   obtain⟨i,a,cap,C,P⟩:=x
   obtain⟨hi,g⟩:=hx
   dsimp only at hi g ⊢
   have hl:=g.len
   have hO:=g.own
   rw[hl] at hO
   conv=>whnf
   repeat (refine aa.of ?_;conv=>whnf)
   refine bF.split (fun hlt=>?_) (fun hlt=>?_)
   · have hlt':i<3:=by
      simp[ao] at hlt
      omega
     have hx:=hLn i hlt'
     have hLi:L[i]! = L[i]:=by simp[hLl,hlt']
     rw[hLi] at hx
     conv=>whnf
     repeat (refine aa.of ?_;conv=>whnf)
     refine ar.aj (ak.index ae rfl rfl rfl (by omega) (by omega) (fun h=>by cases h) fun ad had=>?_)
     conv=>whnf
     repeat (refine aa.of ?_;conv=>whnf)
     refine ar.aj (ak.load ae rfl rfl (ad:=ad) (k:=i) (L:=L.map bt) (v:=.int .i64 L[i]) (.fact fun w hw=>by rw[← had,← hva];exact hw.2) (by simp) (by rw[List.getElem?_map,List.getElem?_eq_getElem (by omega)];rfl) ?_)
     conv=>whnf
     repeat (refine aa.of ?_;conv=>whnf)
     refine ar.build ae rfl rfl rfl [.int .i64 3] rfl rfl (by simp[Value.cells]) (by decide) fun bh=>?_
     conv=>whnf
     repeat (refine aa.of ?_;conv=>whnf)
     refine aw.bZ (F':=⟨fun w=>(cF P w∧ai w hv.a (L.map bt))∧ai w (some ⟨bh,0,none⟩) [.int .i64 3],[]++aF b1 (14+i) a cap C ++ []⟩) (ax.trans (ax.of_le (F':=⟨fun w=>cF P w∧ai w hv.a (L.map bt),([]++aF b1 (14+i) a cap C ++ []) ++ [(bh,Row.c [.int .i64 3])]⟩) ⟨by simp[Value.cells],fun w hw=>hw⟩) ax.bf) ?_
     refine aw.rows (cd b1 (14+i) a cap C _ hO (by omega) L[i] 4 (Hd.v ⟨some ⟨bh,0,none⟩,1⟩ 1) (eA _ _)) (fun w hw=>trivial) (fun v F hv'=>?_)
     obtain⟨a',c',C',hO',rfl⟩:=hv'
     conv=>whnf
     repeat (refine aa.of ?_;conv=>whnf)
     refine⟨(i+1,a',c',C',P ++ [(⟨1,4,L[i],[3]⟩,⟨some ⟨bh,0,none⟩,1⟩)]),⟨⟨hlt',g.next hx (cm _ _) (by rw[hl];exact hO')⟩,by dsimp only;omega⟩,?_,?_,ax.of_le ⟨by first | exact List.Sublist.refl _,fun w hw=>⟨hw.1.1.1.next hw.1.2,hw.1.1.2⟩⟩⟩
     · conv=>whnf
       refine⟨?_,rfl⟩
       repeat (first | exact au.nil | refine au.any ?_ | refine au.cons ?_ | refine au.eq (by rw[wrap_i64 (by omega)];rfl) ?_)
     · conv=>whnf
       exact trivial
   · have hie:i=3:=by
      simp[ao] at hlt
      omega
     subst hie
     conv=>whnf
     repeat (refine aa.of ?_;conv=>whnf)
     refine⟨(a,cap,C,P),g,[],⟨by decide,by simp,rfl⟩,?_,ax.of_le ⟨List.Sublist.refl _,fun w hw=>hw.1⟩⟩
     repeat (first | exact au.nil | refine au.any ?_ | refine au.cons ?_)
theorem EI (h:LA 7 18 w0 av b1):LA 6 17 w0 av b1:=by
 intro a cap C P g
 refine az.cr ae 1 (ι:=Option Addr×Nat×List Value×List (Ln×Hd)) (fun x=>PG 18 x.2.2.2 x.1 x.2.1 x.2.2.1) (fun _=>eV b1) (fun _=>[]) (fun x=>⟨cF x.2.2.2,[]++aF b1 18 x.1 x.2.1 x.2.2.1 ++ []⟩) ?_ ?_
 rotate_left
 · intro x hx bs' hbs'
   obtain rfl:=List.eq_nil_of_length_eq_zero hbs'
   rw[aS]
   exact h x.1 x.2.1 x.2.2.1 x.2.2.2 hx
 · have hl:=g.len
   have hO:=g.own
   rw[hl] at hO
   conv=>whnf
   repeat (refine aa.of ?_;conv=>whnf)
   refine ar.build ae rfl rfl rfl [.int .i64 4] rfl rfl (by simp[Value.cells]) (by decide) fun bh=>?_
   conv=>whnf
   repeat (refine aa.of ?_;conv=>whnf)
   refine aw.bZ (F':=⟨fun w=>cF P w∧ai w (some ⟨bh,0,none⟩) [.int .i64 4],[]++aF b1 17 a cap C ++ []⟩) (ax.trans (ax.of_le (F':=⟨cF P,([]++aF b1 17 a cap C ++ []) ++ [(bh,Row.c [.int .i64 4])]⟩) ⟨by simp[Value.cells],fun w hw=>hw⟩) ax.bf) ?_
   refine aw.rows (cd b1 17 a cap C _ hO (by decide) 11 3 (Hd.v ⟨some ⟨bh,0,none⟩,1⟩ 1) (eA _ _)) (fun w hw=>trivial) (fun v F hv=>?_)
   obtain⟨a',c',C',hO',rfl⟩:=hv
   conv=>whnf
   repeat (refine aa.of ?_;conv=>whnf)
   refine⟨(a',c',C',P ++ [(⟨1,3,11,[4]⟩,⟨some ⟨bh,0,none⟩,1⟩)]),g.next rfl (cm _ _) (by rw[hl];exact hO'),[],⟨by decide,by simp,rfl⟩,?_,ax.of_le ⟨by simp,fun w hw=>hw.1.1.next hw.1.2⟩⟩
   repeat (first | exact au.nil | refine au.any ?_ | refine au.cons ?_)
theorem EU (h:LA 8 21 w0 av b1):LA 7 18 w0 av b1:=by
 intro a cap C P g
 refine az.cr ae 1 (ι:=Option Addr×Nat×List Value×List (Ln×Hd)) (fun x=>PG 21 x.2.2.2 x.1 x.2.1 x.2.2.1) (fun _=>eV b1) (fun _=>[]) (fun x=>⟨cF x.2.2.2,[]++aF b1 21 x.1 x.2.1 x.2.2.1 ++ []⟩) ?_ ?_
 rotate_left
 · intro x hx bs' hbs'
   obtain rfl:=List.eq_nil_of_length_eq_zero hbs'
   rw[aS]
   exact h x.1 x.2.1 x.2.2.1 x.2.2.2 hx
 · conv=>whnf
   repeat (refine aa.of ?_;conv=>whnf)
   refine ar.build ae rfl rfl rfl [.int .i64 12,.int .i64 13,.int .i64 14] rfl rfl (by simp[Value.cells]) (by decide) fun bv=>?_
   conv=>whnf
   repeat (refine aa.of ?_;conv=>whnf)
   obtain⟨hv,hhv⟩ : ∃ hv:Hd,hv=⟨some ⟨bv,0,none⟩,3⟩:=⟨_,rfl⟩
   have hvo:hv.Ok 3:=by rw[hhv];exact cm _ _
   have hva:hv.a=some ⟨bv,0,none⟩:=by rw[hhv]
   obtain⟨L,hL⟩ : ∃ L:List Int,L = [12,13,14]:=⟨_,rfl⟩
   have hE:ax (⟨cF P,([]++aF b1 18 a cap C ++ []) ++ [(bv,Row.c [.int .i64 12,.int .i64 13,.int .i64 14])]⟩:Fx) ⟨fun w=>cF P w∧ai w hv.a (L.map bt),[]++aF b1 (18+0) a cap C ++ []⟩:=by rw[hhv,hL];exact ax.bf
   have hLl:L.length=3:=by rw[hL];decide
   have hLn : ∀ i,i<3→bu[18+i]? = some ⟨1,5,L[i]!,[3]⟩:=by rw[hL];decide
   refine az.loop ae (ι:=Nat×Option Addr×Nat×List Value×List (Ln×Hd)) ([9,50]++List.range' 51 7) (fun x=>x.1≤3∧PG (18+x.1) x.2.2.2.2 x.2.1 x.2.2.1 x.2.2.2.1) (fun x=>[(50,.v (.int .i64 (x.1:Int)))]) (fun _=>[])
    (fun x=>⟨fun w=>cF x.2.2.2.2 w∧ai w hv.a (L.map bt),[]++aF b1 (18+x.1) x.2.1 x.2.2.1 x.2.2.2.1 ++ []⟩) (fun x=>3 - x.1) (0,a,cap,C,P) ⟨Nat.zero_le _,g⟩ ?_ rfl (ax.trans (ax.of_le ⟨by simp[Value.cells],fun w hw=>hw⟩) hE) fun x hx=>?_
   · conv=>whnf
     repeat (first | exact au.nil | refine au.any ?_ | refine au.cons ?_)
   clear g hE
   obtain⟨i,a,cap,C,P⟩:=x
   obtain⟨hi,g⟩:=hx
   dsimp only at hi g ⊢
   have hl:=g.len
   have hO:=g.own
   rw[hl] at hO
   conv=>whnf
   repeat (refine aa.of ?_;conv=>whnf)
   refine bF.split (fun hlt=>?_) (fun hlt=>?_)
   · have hlt':i<3:=by
      simp[ao] at hlt
      omega
     have hx:=hLn i hlt'
     have hLi:L[i]! = L[i]:=by simp[hLl,hlt']
     rw[hLi] at hx
     conv=>whnf
     repeat (refine aa.of ?_;conv=>whnf)
     refine ar.aj (ak.index ae rfl rfl rfl (by omega) (by omega) (fun h=>by cases h) fun ad had=>?_)
     conv=>whnf
     repeat (refine aa.of ?_;conv=>whnf)
     refine ar.aj (ak.load ae rfl rfl (ad:=ad) (k:=i) (L:=L.map bt) (v:=.int .i64 L[i]) (.fact fun w hw=>by rw[← had,← hva];exact hw.2) (by simp) (by rw[List.getElem?_map,List.getElem?_eq_getElem (by omega)];rfl) ?_)
     conv=>whnf
     repeat (refine aa.of ?_;conv=>whnf)
     refine ar.build ae rfl rfl rfl [.int .i64 3] rfl rfl (by simp[Value.cells]) (by decide) fun bh=>?_
     conv=>whnf
     repeat (refine aa.of ?_;conv=>whnf)
     refine aw.bZ (F':=⟨fun w=>(cF P w∧ai w hv.a (L.map bt))∧ai w (some ⟨bh,0,none⟩) [.int .i64 3],[]++aF b1 (18+i) a cap C ++ []⟩) (ax.trans (ax.of_le (F':=⟨fun w=>cF P w∧ai w hv.a (L.map bt),([]++aF b1 (18+i) a cap C ++ []) ++ [(bh,Row.c [.int .i64 3])]⟩) ⟨by simp[Value.cells],fun w hw=>hw⟩) ax.bf) ?_
     refine aw.rows (cd b1 (18+i) a cap C _ hO (by omega) L[i] 5 (Hd.v ⟨some ⟨bh,0,none⟩,1⟩ 1) (eA _ _)) (fun w hw=>trivial) (fun v F hv'=>?_)
     obtain⟨a',c',C',hO',rfl⟩:=hv'
     conv=>whnf
     repeat (refine aa.of ?_;conv=>whnf)
     refine⟨(i+1,a',c',C',P ++ [(⟨1,5,L[i],[3]⟩,⟨some ⟨bh,0,none⟩,1⟩)]),⟨⟨hlt',g.next hx (cm _ _) (by rw[hl];exact hO')⟩,by dsimp only;omega⟩,?_,?_,ax.of_le ⟨by first | exact List.Sublist.refl _,fun w hw=>⟨hw.1.1.1.next hw.1.2,hw.1.1.2⟩⟩⟩
     · conv=>whnf
       refine⟨?_,rfl⟩
       repeat (first | exact au.nil | refine au.any ?_ | refine au.cons ?_ | refine au.eq (by rw[wrap_i64 (by omega)];rfl) ?_)
     · conv=>whnf
       exact trivial
   · have hie:i=3:=by
      simp[ao] at hlt
      omega
     subst hie
     conv=>whnf
     repeat (refine aa.of ?_;conv=>whnf)
     refine⟨(a,cap,C,P),g,[],⟨by decide,by simp,rfl⟩,?_,ax.of_le ⟨List.Sublist.refl _,fun w hw=>hw.1⟩⟩
     repeat (first | exact au.nil | refine au.any ?_ | refine au.cons ?_)
theorem ES (h:LA 9 22 w0 av b1):LA 8 21 w0 av b1:=by
 intro a cap C P g
 refine az.cr ae 1 (ι:=Option Addr×Nat×List Value×List (Ln×Hd)) (fun x=>PG 22 x.2.2.2 x.1 x.2.1 x.2.2.1) (fun _=>eV b1) (fun _=>[]) (fun x=>⟨cF x.2.2.2,[]++aF b1 22 x.1 x.2.1 x.2.2.1 ++ []⟩) ?_ ?_
 rotate_left
 · intro x hx bs' hbs'
   obtain rfl:=List.eq_nil_of_length_eq_zero hbs'
   rw[aS]
   exact h x.1 x.2.1 x.2.2.1 x.2.2.2 hx
 · have hl:=g.len
   have hO:=g.own
   rw[hl] at hO
   conv=>whnf
   repeat (refine aa.of ?_;conv=>whnf)
   refine ar.build ae rfl rfl rfl [.int .i64 5] rfl rfl (by simp[Value.cells]) (by decide) fun bh=>?_
   conv=>whnf
   repeat (refine aa.of ?_;conv=>whnf)
   refine aw.bZ (F':=⟨fun w=>cF P w∧ai w (some ⟨bh,0,none⟩) [.int .i64 5],[]++aF b1 21 a cap C ++ []⟩) (ax.trans (ax.of_le (F':=⟨cF P,([]++aF b1 21 a cap C ++ []) ++ [(bh,Row.c [.int .i64 5])]⟩) ⟨by simp[Value.cells],fun w hw=>hw⟩) ax.bf) ?_
   refine aw.rows (cd b1 21 a cap C _ hO (by decide) 15 3 (Hd.v ⟨some ⟨bh,0,none⟩,1⟩ 1) (eA _ _)) (fun w hw=>trivial) (fun v F hv=>?_)
   obtain⟨a',c',C',hO',rfl⟩:=hv
   conv=>whnf
   repeat (refine aa.of ?_;conv=>whnf)
   refine⟨(a',c',C',P ++ [(⟨1,3,15,[5]⟩,⟨some ⟨bh,0,none⟩,1⟩)]),g.next rfl (cm _ _) (by rw[hl];exact hO'),[],⟨by decide,by simp,rfl⟩,?_,ax.of_le ⟨by simp,fun w hw=>hw.1.1.next hw.1.2⟩⟩
   repeat (first | exact au.nil | refine au.any ?_ | refine au.cons ?_)
theorem EG (h:LA 10 23 w0 av b1):LA 9 22 w0 av b1:=by
 intro a cap C P g
 refine az.cr ae 1 (ι:=Option Addr×Nat×List Value×List (Ln×Hd)) (fun x=>PG 23 x.2.2.2 x.1 x.2.1 x.2.2.1) (fun _=>eV b1) (fun _=>[]) (fun x=>⟨cF x.2.2.2,[]++aF b1 23 x.1 x.2.1 x.2.2.1 ++ []⟩) ?_ ?_
 rotate_left
 · intro x hx bs' hbs'
   obtain rfl:=List.eq_nil_of_length_eq_zero hbs'
   rw[aS]
   exact h x.1 x.2.1 x.2.2.1 x.2.2.2 hx
 · have hl:=g.len
   have hO:=g.own
   rw[hl] at hO
   conv=>whnf
   repeat (refine aa.of ?_;conv=>whnf)
   refine ar.build ae rfl rfl rfl [.int .i64 3] rfl rfl (by simp[Value.cells]) (by decide) fun bh=>?_
   conv=>whnf
   repeat (refine aa.of ?_;conv=>whnf)
   refine aw.bZ (F':=⟨fun w=>cF P w∧ai w (some ⟨bh,0,none⟩) [.int .i64 3],[]++aF b1 22 a cap C ++ []⟩) (ax.trans (ax.of_le (F':=⟨cF P,([]++aF b1 22 a cap C ++ []) ++ [(bh,Row.c [.int .i64 3])]⟩) ⟨by simp[Value.cells],fun w hw=>hw⟩) ax.bf) ?_
   refine aw.rows (cd b1 22 a cap C _ hO (by decide) 16 10 (Hd.v ⟨some ⟨bh,0,none⟩,1⟩ 1) (eA _ _)) (fun w hw=>trivial) (fun v F hv=>?_)
   obtain⟨a',c',C',hO',rfl⟩:=hv
   conv=>whnf
   repeat (refine aa.of ?_;conv=>whnf)
   refine⟨(a',c',C',P ++ [(⟨1,10,16,[3]⟩,⟨some ⟨bh,0,none⟩,1⟩)]),g.next rfl (cm _ _) (by rw[hl];exact hO'),[],⟨by decide,by simp,rfl⟩,?_,ax.of_le ⟨by simp,fun w hw=>hw.1.1.next hw.1.2⟩⟩
   repeat (first | exact au.nil | refine au.any ?_ | refine au.cons ?_)
theorem Eu (h:LA 11 24 w0 av b1):LA 10 23 w0 av b1:=by
 intro a cap C P g
 refine az.cr ae 1 (ι:=Option Addr×Nat×List Value×List (Ln×Hd)) (fun x=>PG 24 x.2.2.2 x.1 x.2.1 x.2.2.1) (fun _=>eV b1) (fun _=>[]) (fun x=>⟨cF x.2.2.2,[]++aF b1 24 x.1 x.2.1 x.2.2.1 ++ []⟩) ?_ ?_
 rotate_left
 · intro x hx bs' hbs'
   obtain rfl:=List.eq_nil_of_length_eq_zero hbs'
   rw[aS]
   exact h x.1 x.2.1 x.2.2.1 x.2.2.2 hx
 · have hl:=g.len
   have hO:=g.own
   rw[hl] at hO
   conv=>whnf
   repeat (refine aa.of ?_;conv=>whnf)
   refine ar.build ae rfl rfl rfl [.int .i64 10] rfl rfl (by simp[Value.cells]) (by decide) fun bh=>?_
   conv=>whnf
   repeat (refine aa.of ?_;conv=>whnf)
   refine aw.bZ (F':=⟨fun w=>cF P w∧ai w (some ⟨bh,0,none⟩) [.int .i64 10],[]++aF b1 23 a cap C ++ []⟩) (ax.trans (ax.of_le (F':=⟨cF P,([]++aF b1 23 a cap C ++ []) ++ [(bh,Row.c [.int .i64 10])]⟩) ⟨by simp[Value.cells],fun w hw=>hw⟩) ax.bf) ?_
   refine aw.rows (cd b1 23 a cap C _ hO (by decide) 17 3 (Hd.v ⟨some ⟨bh,0,none⟩,1⟩ 1) (eA _ _)) (fun w hw=>trivial) (fun v F hv=>?_)
   obtain⟨a',c',C',hO',rfl⟩:=hv
   conv=>whnf
   repeat (refine aa.of ?_;conv=>whnf)
   refine⟨(a',c',C',P ++ [(⟨1,3,17,[10]⟩,⟨some ⟨bh,0,none⟩,1⟩)]),g.next rfl (cm _ _) (by rw[hl];exact hO'),[],⟨by decide,by simp,rfl⟩,?_,ax.of_le ⟨by simp,fun w hw=>hw.1.1.next hw.1.2⟩⟩
   repeat (first | exact au.nil | refine au.any ?_ | refine au.cons ?_)
theorem D9 (h:LA 12 25 w0 av b1):LA 11 24 w0 av b1:=by
 intro a cap C P g
 refine az.cr ae 1 (ι:=Option Addr×Nat×List Value×List (Ln×Hd)) (fun x=>PG 25 x.2.2.2 x.1 x.2.1 x.2.2.1) (fun _=>eV b1) (fun _=>[]) (fun x=>⟨cF x.2.2.2,[]++aF b1 25 x.1 x.2.1 x.2.2.1 ++ []⟩) ?_ ?_
 rotate_left
 · intro x hx bs' hbs'
   obtain rfl:=List.eq_nil_of_length_eq_zero hbs'
   rw[aS]
   exact h x.1 x.2.1 x.2.2.1 x.2.2.2 hx
 · have hl:=g.len
   have hO:=g.own
   rw[hl] at hO
   conv=>whnf
   repeat (refine aa.of ?_;conv=>whnf)
   refine ar.build ae rfl rfl rfl [.int .i64 5] rfl rfl (by simp[Value.cells]) (by decide) fun bh=>?_
   conv=>whnf
   repeat (refine aa.of ?_;conv=>whnf)
   refine aw.bZ (F':=⟨fun w=>cF P w∧ai w (some ⟨bh,0,none⟩) [.int .i64 5],[]++aF b1 24 a cap C ++ []⟩) (ax.trans (ax.of_le (F':=⟨cF P,([]++aF b1 24 a cap C ++ []) ++ [(bh,Row.c [.int .i64 5])]⟩) ⟨by simp[Value.cells],fun w hw=>hw⟩) ax.bf) ?_
   refine aw.rows (cd b1 24 a cap C _ hO (by decide) 18 6 (Hd.v ⟨some ⟨bh,0,none⟩,1⟩ 1) (eA _ _)) (fun w hw=>trivial) (fun v F hv=>?_)
   obtain⟨a',c',C',hO',rfl⟩:=hv
   conv=>whnf
   repeat (refine aa.of ?_;conv=>whnf)
   refine⟨(a',c',C',P ++ [(⟨1,6,18,[5]⟩,⟨some ⟨bh,0,none⟩,1⟩)]),g.next rfl (cm _ _) (by rw[hl];exact hO'),[],⟨by decide,by simp,rfl⟩,?_,ax.of_le ⟨by simp,fun w hw=>hw.1.1.next hw.1.2⟩⟩
   repeat (first | exact au.nil | refine au.any ?_ | refine au.cons ?_)
theorem D5 (h:LA 13 26 w0 av b1):LA 12 25 w0 av b1:=by
 intro a cap C P g
 refine az.cr ae 1 (ι:=Option Addr×Nat×List Value×List (Ln×Hd)) (fun x=>PG 26 x.2.2.2 x.1 x.2.1 x.2.2.1) (fun _=>eV b1) (fun _=>[]) (fun x=>⟨cF x.2.2.2,[]++aF b1 26 x.1 x.2.1 x.2.2.1 ++ []⟩) ?_ ?_
 rotate_left
 · intro x hx bs' hbs'
   obtain rfl:=List.eq_nil_of_length_eq_zero hbs'
   rw[aS]
   exact h x.1 x.2.1 x.2.2.1 x.2.2.2 hx
 · have hl:=g.len
   have hO:=g.own
   rw[hl] at hO
   conv=>whnf
   repeat (refine aa.of ?_;conv=>whnf)
   refine ar.build ae rfl rfl rfl [.int .i64 6] rfl rfl (by simp[Value.cells]) (by decide) fun bh=>?_
   conv=>whnf
   repeat (refine aa.of ?_;conv=>whnf)
   refine aw.bZ (F':=⟨fun w=>cF P w∧ai w (some ⟨bh,0,none⟩) [.int .i64 6],[]++aF b1 25 a cap C ++ []⟩) (ax.trans (ax.of_le (F':=⟨cF P,([]++aF b1 25 a cap C ++ []) ++ [(bh,Row.c [.int .i64 6])]⟩) ⟨by simp[Value.cells],fun w hw=>hw⟩) ax.bf) ?_
   refine aw.rows (cd b1 25 a cap C _ hO (by decide) 19 5 (Hd.v ⟨some ⟨bh,0,none⟩,1⟩ 1) (eA _ _)) (fun w hw=>trivial) (fun v F hv=>?_)
   obtain⟨a',c',C',hO',rfl⟩:=hv
   conv=>whnf
   repeat (refine aa.of ?_;conv=>whnf)
   refine⟨(a',c',C',P ++ [(⟨1,5,19,[6]⟩,⟨some ⟨bh,0,none⟩,1⟩)]),g.next rfl (cm _ _) (by rw[hl];exact hO'),[],⟨by decide,by simp,rfl⟩,?_,ax.of_le ⟨by simp,fun w hw=>hw.1.1.next hw.1.2⟩⟩
   repeat (first | exact au.nil | refine au.any ?_ | refine au.cons ?_)
theorem DQ (h:LA 14 27 w0 av b1):LA 13 26 w0 av b1:=by
 intro a cap C P g
 refine az.cr ae 1 (ι:=Option Addr×Nat×List Value×List (Ln×Hd)) (fun x=>PG 27 x.2.2.2 x.1 x.2.1 x.2.2.1) (fun _=>eV b1) (fun _=>[]) (fun x=>⟨cF x.2.2.2,[]++aF b1 27 x.1 x.2.1 x.2.2.1 ++ []⟩) ?_ ?_
 rotate_left
 · intro x hx bs' hbs'
   obtain rfl:=List.eq_nil_of_length_eq_zero hbs'
   rw[aS]
   exact h x.1 x.2.1 x.2.2.1 x.2.2.2 hx
 · have hl:=g.len
   have hO:=g.own
   rw[hl] at hO
   conv=>whnf
   repeat (refine aa.of ?_;conv=>whnf)
   refine ar.build ae rfl rfl rfl [.int .i64 4,.int .i64 6] rfl rfl (by simp[Value.cells]) (by decide) fun bh=>?_
   conv=>whnf
   repeat (refine aa.of ?_;conv=>whnf)
   refine aw.bZ (F':=⟨fun w=>cF P w∧ai w (some ⟨bh,0,none⟩) [.int .i64 4,.int .i64 6],[]++aF b1 26 a cap C ++ []⟩) (ax.trans (ax.of_le (F':=⟨cF P,([]++aF b1 26 a cap C ++ []) ++ [(bh,Row.c [.int .i64 4,.int .i64 6])]⟩) ⟨by simp[Value.cells],fun w hw=>hw⟩) ax.bf) ?_
   refine aw.rows (cd b1 26 a cap C _ hO (by decide) 20 7 (Hd.v ⟨some ⟨bh,0,none⟩,2⟩ 2) (eA _ _)) (fun w hw=>trivial) (fun v F hv=>?_)
   obtain⟨a',c',C',hO',rfl⟩:=hv
   conv=>whnf
   repeat (refine aa.of ?_;conv=>whnf)
   refine⟨(a',c',C',P ++ [(⟨1,7,20,[4,6]⟩,⟨some ⟨bh,0,none⟩,2⟩)]),g.next rfl (cm _ _) (by rw[hl];exact hO'),[],⟨by decide,by simp,rfl⟩,?_,ax.of_le ⟨by simp,fun w hw=>hw.1.1.next hw.1.2⟩⟩
   repeat (first | exact au.nil | refine au.any ?_ | refine au.cons ?_)
theorem Ea (h:LA 15 28 w0 av b1):LA 14 27 w0 av b1:=by
 intro a cap C P g
 refine az.cr ae 1 (ι:=Option Addr×Nat×List Value×List (Ln×Hd)) (fun x=>PG 28 x.2.2.2 x.1 x.2.1 x.2.2.1) (fun _=>eV b1) (fun _=>[]) (fun x=>⟨cF x.2.2.2,[]++aF b1 28 x.1 x.2.1 x.2.2.1 ++ []⟩) ?_ ?_
 rotate_left
 · intro x hx bs' hbs'
   obtain rfl:=List.eq_nil_of_length_eq_zero hbs'
   rw[aS]
   exact h x.1 x.2.1 x.2.2.1 x.2.2.2 hx
 · have hl:=g.len
   have hO:=g.own
   rw[hl] at hO
   conv=>whnf
   repeat (refine aa.of ?_;conv=>whnf)
   refine ar.build ae rfl rfl rfl [.int .i64 7] rfl rfl (by simp[Value.cells]) (by decide) fun bh=>?_
   conv=>whnf
   repeat (refine aa.of ?_;conv=>whnf)
   refine aw.bZ (F':=⟨fun w=>cF P w∧ai w (some ⟨bh,0,none⟩) [.int .i64 7],[]++aF b1 27 a cap C ++ []⟩) (ax.trans (ax.of_le (F':=⟨cF P,([]++aF b1 27 a cap C ++ []) ++ [(bh,Row.c [.int .i64 7])]⟩) ⟨by simp[Value.cells],fun w hw=>hw⟩) ax.bf) ?_
   refine aw.rows (cd b1 27 a cap C _ hO (by decide) 21 4 (Hd.v ⟨some ⟨bh,0,none⟩,1⟩ 1) (eA _ _)) (fun w hw=>trivial) (fun v F hv=>?_)
   obtain⟨a',c',C',hO',rfl⟩:=hv
   conv=>whnf
   repeat (refine aa.of ?_;conv=>whnf)
   refine⟨(a',c',C',P ++ [(⟨1,4,21,[7]⟩,⟨some ⟨bh,0,none⟩,1⟩)]),g.next rfl (cm _ _) (by rw[hl];exact hO'),[],⟨by decide,by simp,rfl⟩,?_,ax.of_le ⟨by simp,fun w hw=>hw.1.1.next hw.1.2⟩⟩
   repeat (first | exact au.nil | refine au.any ?_ | refine au.cons ?_)
theorem D6 (h:LA 16 29 w0 av b1):LA 15 28 w0 av b1:=by
 intro a cap C P g
 refine az.cr ae 1 (ι:=Option Addr×Nat×List Value×List (Ln×Hd)) (fun x=>PG 29 x.2.2.2 x.1 x.2.1 x.2.2.1) (fun _=>eV b1) (fun _=>[]) (fun x=>⟨cF x.2.2.2,[]++aF b1 29 x.1 x.2.1 x.2.2.1 ++ []⟩) ?_ ?_
 rotate_left
 · intro x hx bs' hbs'
   obtain rfl:=List.eq_nil_of_length_eq_zero hbs'
   rw[aS]
   exact h x.1 x.2.1 x.2.2.1 x.2.2.2 hx
 · have hl:=g.len
   have hO:=g.own
   rw[hl] at hO
   conv=>whnf
   repeat (refine aa.of ?_;conv=>whnf)
   refine ar.build ae rfl rfl rfl [.int .i64 7] rfl rfl (by simp[Value.cells]) (by decide) fun bh=>?_
   conv=>whnf
   repeat (refine aa.of ?_;conv=>whnf)
   refine aw.bZ (F':=⟨fun w=>cF P w∧ai w (some ⟨bh,0,none⟩) [.int .i64 7],[]++aF b1 28 a cap C ++ []⟩) (ax.trans (ax.of_le (F':=⟨cF P,([]++aF b1 28 a cap C ++ []) ++ [(bh,Row.c [.int .i64 7])]⟩) ⟨by simp[Value.cells],fun w hw=>hw⟩) ax.bf) ?_
   refine aw.rows (cd b1 28 a cap C _ hO (by decide) 21 6 (Hd.v ⟨some ⟨bh,0,none⟩,1⟩ 1) (eA _ _)) (fun w hw=>trivial) (fun v F hv=>?_)
   obtain⟨a',c',C',hO',rfl⟩:=hv
   conv=>whnf
   repeat (refine aa.of ?_;conv=>whnf)
   refine⟨(a',c',C',P ++ [(⟨1,6,21,[7]⟩,⟨some ⟨bh,0,none⟩,1⟩)]),g.next rfl (cm _ _) (by rw[hl];exact hO'),[],⟨by decide,by simp,rfl⟩,?_,ax.of_le ⟨by simp,fun w hw=>hw.1.1.next hw.1.2⟩⟩
   repeat (first | exact au.nil | refine au.any ?_ | refine au.cons ?_)
theorem EA (h:LA 17 30 w0 av b1):LA 16 29 w0 av b1:=by
 intro a cap C P g
 refine az.cr ae 1 (ι:=Option Addr×Nat×List Value×List (Ln×Hd)) (fun x=>PG 30 x.2.2.2 x.1 x.2.1 x.2.2.1) (fun _=>eV b1) (fun _=>[]) (fun x=>⟨cF x.2.2.2,[]++aF b1 30 x.1 x.2.1 x.2.2.1 ++ []⟩) ?_ ?_
 rotate_left
 · intro x hx bs' hbs'
   obtain rfl:=List.eq_nil_of_length_eq_zero hbs'
   rw[aS]
   exact h x.1 x.2.1 x.2.2.1 x.2.2.2 hx
 · have hl:=g.len
   have hO:=g.own
   rw[hl] at hO
   conv=>whnf
   repeat (refine aa.of ?_;conv=>whnf)
   refine ar.build ae rfl rfl rfl [.int .i64 5] rfl rfl (by simp[Value.cells]) (by decide) fun bh=>?_
   conv=>whnf
   repeat (refine aa.of ?_;conv=>whnf)
   refine aw.bZ (F':=⟨fun w=>cF P w∧ai w (some ⟨bh,0,none⟩) [.int .i64 5],[]++aF b1 29 a cap C ++ []⟩) (ax.trans (ax.of_le (F':=⟨cF P,([]++aF b1 29 a cap C ++ []) ++ [(bh,Row.c [.int .i64 5])]⟩) ⟨by simp[Value.cells],fun w hw=>hw⟩) ax.bf) ?_
   refine aw.rows (cd b1 29 a cap C _ hO (by decide) 22 9 (Hd.v ⟨some ⟨bh,0,none⟩,1⟩ 1) (eA _ _)) (fun w hw=>trivial) (fun v F hv=>?_)
   obtain⟨a',c',C',hO',rfl⟩:=hv
   conv=>whnf
   repeat (refine aa.of ?_;conv=>whnf)
   refine⟨(a',c',C',P ++ [(⟨1,9,22,[5]⟩,⟨some ⟨bh,0,none⟩,1⟩)]),g.next rfl (cm _ _) (by rw[hl];exact hO'),[],⟨by decide,by simp,rfl⟩,?_,ax.of_le ⟨by simp,fun w hw=>hw.1.1.next hw.1.2⟩⟩
   repeat (first | exact au.nil | refine au.any ?_ | refine au.cons ?_)
theorem Er (h:LA 18 31 w0 av b1):LA 17 30 w0 av b1:=by
 intro a cap C P g
 refine az.cr ae 1 (ι:=Option Addr×Nat×List Value×List (Ln×Hd)) (fun x=>PG 31 x.2.2.2 x.1 x.2.1 x.2.2.1) (fun _=>eV b1) (fun _=>[]) (fun x=>⟨cF x.2.2.2,[]++aF b1 31 x.1 x.2.1 x.2.2.1 ++ []⟩) ?_ ?_
 rotate_left
 · intro x hx bs' hbs'
   obtain rfl:=List.eq_nil_of_length_eq_zero hbs'
   rw[aS]
   exact h x.1 x.2.1 x.2.2.1 x.2.2.2 hx
 · have hl:=g.len
   have hO:=g.own
   rw[hl] at hO
   conv=>whnf
   repeat (refine aa.of ?_;conv=>whnf)
   refine ar.build ae rfl rfl rfl [.int .i64 9] rfl rfl (by simp[Value.cells]) (by decide) fun bh=>?_
   conv=>whnf
   repeat (refine aa.of ?_;conv=>whnf)
   refine aw.bZ (F':=⟨fun w=>cF P w∧ai w (some ⟨bh,0,none⟩) [.int .i64 9],[]++aF b1 30 a cap C ++ []⟩) (ax.trans (ax.of_le (F':=⟨cF P,([]++aF b1 30 a cap C ++ []) ++ [(bh,Row.c [.int .i64 9])]⟩) ⟨by simp[Value.cells],fun w hw=>hw⟩) ax.bf) ?_
   refine aw.rows (cd b1 30 a cap C _ hO (by decide) 23 5 (Hd.v ⟨some ⟨bh,0,none⟩,1⟩ 1) (eA _ _)) (fun w hw=>trivial) (fun v F hv=>?_)
   obtain⟨a',c',C',hO',rfl⟩:=hv
   conv=>whnf
   repeat (refine aa.of ?_;conv=>whnf)
   refine⟨(a',c',C',P ++ [(⟨1,5,23,[9]⟩,⟨some ⟨bh,0,none⟩,1⟩)]),g.next rfl (cm _ _) (by rw[hl];exact hO'),[],⟨by decide,by simp,rfl⟩,?_,ax.of_le ⟨by simp,fun w hw=>hw.1.1.next hw.1.2⟩⟩
   repeat (first | exact au.nil | refine au.any ?_ | refine au.cons ?_)
theorem Ec (h:LA 19 32 w0 av b1):LA 18 31 w0 av b1:=by
 intro a cap C P g
 refine az.cr ae 1 (ι:=Option Addr×Nat×List Value×List (Ln×Hd)) (fun x=>PG 32 x.2.2.2 x.1 x.2.1 x.2.2.1) (fun _=>eV b1) (fun _=>[]) (fun x=>⟨cF x.2.2.2,[]++aF b1 32 x.1 x.2.1 x.2.2.1 ++ []⟩) ?_ ?_
 rotate_left
 · intro x hx bs' hbs'
   obtain rfl:=List.eq_nil_of_length_eq_zero hbs'
   rw[aS]
   exact h x.1 x.2.1 x.2.2.1 x.2.2.2 hx
 · have hl:=g.len
   have hO:=g.own
   rw[hl] at hO
   conv=>whnf
   repeat (refine aa.of ?_;conv=>whnf)
   refine ar.build ae rfl rfl rfl [.int .i64 5] rfl rfl (by simp[Value.cells]) (by decide) fun bh=>?_
   conv=>whnf
   repeat (refine aa.of ?_;conv=>whnf)
   refine aw.bZ (F':=⟨fun w=>cF P w∧ai w (some ⟨bh,0,none⟩) [.int .i64 5],[]++aF b1 31 a cap C ++ []⟩) (ax.trans (ax.of_le (F':=⟨cF P,([]++aF b1 31 a cap C ++ []) ++ [(bh,Row.c [.int .i64 5])]⟩) ⟨by simp[Value.cells],fun w hw=>hw⟩) ax.bf) ?_
   refine aw.rows (cd b1 31 a cap C _ hO (by decide) 24 8 (Hd.v ⟨some ⟨bh,0,none⟩,1⟩ 1) (eA _ _)) (fun w hw=>trivial) (fun v F hv=>?_)
   obtain⟨a',c',C',hO',rfl⟩:=hv
   conv=>whnf
   repeat (refine aa.of ?_;conv=>whnf)
   refine⟨(a',c',C',P ++ [(⟨1,8,24,[5]⟩,⟨some ⟨bh,0,none⟩,1⟩)]),g.next rfl (cm _ _) (by rw[hl];exact hO'),[],⟨by decide,by simp,rfl⟩,?_,ax.of_le ⟨by simp,fun w hw=>hw.1.1.next hw.1.2⟩⟩
   repeat (first | exact au.nil | refine au.any ?_ | refine au.cons ?_)
theorem Eh (h:LA 20 33 w0 av b1):LA 19 32 w0 av b1:=by
 intro a cap C P g
 refine az.cr ae 1 (ι:=Option Addr×Nat×List Value×List (Ln×Hd)) (fun x=>PG 33 x.2.2.2 x.1 x.2.1 x.2.2.1) (fun _=>eV b1) (fun _=>[]) (fun x=>⟨cF x.2.2.2,[]++aF b1 33 x.1 x.2.1 x.2.2.1 ++ []⟩) ?_ ?_
 rotate_left
 · intro x hx bs' hbs'
   obtain rfl:=List.eq_nil_of_length_eq_zero hbs'
   rw[aS]
   exact h x.1 x.2.1 x.2.2.1 x.2.2.2 hx
 · have hl:=g.len
   have hO:=g.own
   rw[hl] at hO
   conv=>whnf
   repeat (refine aa.of ?_;conv=>whnf)
   refine ar.build ae rfl rfl rfl [.int .i64 8] rfl rfl (by simp[Value.cells]) (by decide) fun bh=>?_
   conv=>whnf
   repeat (refine aa.of ?_;conv=>whnf)
   refine aw.bZ (F':=⟨fun w=>cF P w∧ai w (some ⟨bh,0,none⟩) [.int .i64 8],[]++aF b1 32 a cap C ++ []⟩) (ax.trans (ax.of_le (F':=⟨cF P,([]++aF b1 32 a cap C ++ []) ++ [(bh,Row.c [.int .i64 8])]⟩) ⟨by simp[Value.cells],fun w hw=>hw⟩) ax.bf) ?_
   refine aw.rows (cd b1 32 a cap C _ hO (by decide) 25 5 (Hd.v ⟨some ⟨bh,0,none⟩,1⟩ 1) (eA _ _)) (fun w hw=>trivial) (fun v F hv=>?_)
   obtain⟨a',c',C',hO',rfl⟩:=hv
   conv=>whnf
   repeat (refine aa.of ?_;conv=>whnf)
   refine⟨(a',c',C',P ++ [(⟨1,5,25,[8]⟩,⟨some ⟨bh,0,none⟩,1⟩)]),g.next rfl (cm _ _) (by rw[hl];exact hO'),[],⟨by decide,by simp,rfl⟩,?_,ax.of_le ⟨by simp,fun w hw=>hw.1.1.next hw.1.2⟩⟩
   repeat (first | exact au.nil | refine au.any ?_ | refine au.cons ?_)
theorem DP (h:LA 21 34 w0 av b1):LA 20 33 w0 av b1:=by
 intro a cap C P g
 refine az.cr ae 1 (ι:=Option Addr×Nat×List Value×List (Ln×Hd)) (fun x=>PG 34 x.2.2.2 x.1 x.2.1 x.2.2.1) (fun _=>eV b1) (fun _=>[]) (fun x=>⟨cF x.2.2.2,[]++aF b1 34 x.1 x.2.1 x.2.2.1 ++ []⟩) ?_ ?_
 rotate_left
 · intro x hx bs' hbs'
   obtain rfl:=List.eq_nil_of_length_eq_zero hbs'
   rw[aS]
   exact h x.1 x.2.1 x.2.2.1 x.2.2.2 hx
 · have hl:=g.len
   have hO:=g.own
   rw[hl] at hO
   conv=>whnf
   repeat (refine aa.of ?_;conv=>whnf)
   refine aw.pure (dI 1 (by decide)) (fun w hw=>trivial) (fun v F hv=>?_)
   obtain⟨hh,hho,rfl,rfl⟩:=hv
   conv=>whnf
   repeat (refine aa.of ?_;conv=>whnf)
   refine aw.bZ (F':=⟨fun w=>cF P w∧ai w hh.a ((ct 1).map bt),[]++aF b1 33 a cap C ++ []⟩) (ax.of_le ⟨by simp[Fx.and],fun w hw=>hw⟩) ?_
   refine aw.rows (cd b1 33 a cap C _ hO (by decide) 26 2 (Hd.v hh (ct 1).length) (eA _ _)) (fun w hw=>trivial) (fun v F hv=>?_)
   obtain⟨a',c',C',hO',rfl⟩:=hv
   conv=>whnf
   repeat (refine aa.of ?_;conv=>whnf)
   refine⟨(a',c',C',P ++ [(⟨1,2,26,ct 1⟩,hh)]),g.next rfl hho (by rw[hl];exact hO'),[],⟨by decide,by simp,rfl⟩,?_,ax.of_le ⟨by simp,fun w hw=>hw.1.1.next hw.1.2⟩⟩
   repeat (first | exact au.nil | refine au.any ?_ | refine au.cons ?_)
theorem Ex (h:LA 22 44 w0 av b1):LA 21 34 w0 av b1:=by
 intro a cap C P g
 refine az.cr ae 1 (ι:=Option Addr×Nat×List Value×List (Ln×Hd)) (fun x=>PG 44 x.2.2.2 x.1 x.2.1 x.2.2.1) (fun _=>eV b1) (fun _=>[]) (fun x=>⟨cF x.2.2.2,[]++aF b1 44 x.1 x.2.1 x.2.2.1 ++ []⟩) ?_ ?_
 rotate_left
 · intro x hx bs' hbs'
   obtain rfl:=List.eq_nil_of_length_eq_zero hbs'
   rw[aS]
   exact h x.1 x.2.1 x.2.2.1 x.2.2.2 hx
 · conv=>whnf
   repeat (refine aa.of ?_;conv=>whnf)
   refine aw.pure (dI 1 (by decide)) (fun w hw=>trivial) (fun v F hv=>?_)
   obtain⟨hv,hvo,rfl,rfl⟩:=hv
   conv=>whnf
   repeat (refine aa.of ?_;conv=>whnf)
   obtain⟨L,hL⟩ : ∃ L:List Int,L=ct 1:=⟨_,rfl⟩
   have hE:ax (⟨fun w=>cF P w∧ai w hv.a ((ct 1).map bt),[]++aF b1 34 a cap C ++ []⟩:Fx) ⟨fun w=>cF P w∧ai w hv.a (L.map bt),[]++aF b1 (34+0) a cap C ++ []⟩:=by rw[hL];exact ax.refl _
   have hLl:L.length=10:=by rw[hL];decide
   have hLn : ∀ i,i<10→bu[34+i]? = some ⟨1,L[i]!,27,[2]⟩:=by rw[hL];decide
   refine az.loop ae (ι:=Nat×Option Addr×Nat×List Value×List (Ln×Hd)) ([11,86]++List.range' 87 7) (fun x=>x.1≤10∧PG (34+x.1) x.2.2.2.2 x.2.1 x.2.2.1 x.2.2.2.1) (fun x=>[(86,.v (.int .i64 (x.1:Int)))]) (fun _=>[])
    (fun x=>⟨fun w=>cF x.2.2.2.2 w∧ai w hv.a (L.map bt),[]++aF b1 (34+x.1) x.2.1 x.2.2.1 x.2.2.2.1 ++ []⟩) (fun x=>10 - x.1) (0,a,cap,C,P) ⟨Nat.zero_le _,g⟩ ?_ rfl (ax.trans (ax.of_le (F':=⟨fun w=>cF P w∧ai w hv.a ((ct 1).map bt),[]++aF b1 34 a cap C ++ []⟩) ⟨by simp[Fx.and],fun w hw=>hw⟩) hE) fun x hx=>?_
   · conv=>whnf
     repeat (first | exact au.nil | refine au.any ?_ | refine au.cons ?_)
   clear g hE
   obtain⟨i,a,cap,C,P⟩:=x
   obtain⟨hi,g⟩:=hx
   dsimp only at hi g ⊢
   have hl:=g.len
   have hO:=g.own
   rw[hl] at hO
   conv=>whnf
   repeat (refine aa.of ?_;conv=>whnf)
   refine bF.split (fun hlt=>?_) (fun hlt=>?_)
   · have hlt':i<10:=by
      simp[ao,ct] at hlt
      omega
     have hx:=hLn i hlt'
     have hLi:L[i]! = L[i]:=by simp[hLl,hlt']
     rw[hLi] at hx
     conv=>whnf
     repeat (refine aa.of ?_;conv=>whnf)
     refine ar.aj (ak.index ae rfl rfl rfl (by omega) (by show(i:Int)<(((ct 1).length:Nat):Int);rw[← hL,hLl];omega) hvo.nil fun ad had=>?_)
     conv=>whnf
     repeat (refine aa.of ?_;conv=>whnf)
     refine ar.aj (ak.load ae rfl rfl (ad:=ad) (k:=i) (L:=L.map bt) (v:=.int .i64 L[i]) (.fact fun w hw=>had ▸ hw.2) (by simp) (by rw[List.getElem?_map,List.getElem?_eq_getElem (by omega)];rfl) ?_)
     conv=>whnf
     repeat (refine aa.of ?_;conv=>whnf)
     refine ar.build ae rfl rfl rfl [.int .i64 2] rfl rfl (by simp[Value.cells]) (by decide) fun bh=>?_
     conv=>whnf
     repeat (refine aa.of ?_;conv=>whnf)
     refine aw.bZ (F':=⟨fun w=>(cF P w∧ai w hv.a (L.map bt))∧ai w (some ⟨bh,0,none⟩) [.int .i64 2],[]++aF b1 (34+i) a cap C ++ []⟩) (ax.trans (ax.of_le (F':=⟨fun w=>cF P w∧ai w hv.a (L.map bt),([]++aF b1 (34+i) a cap C ++ []) ++ [(bh,Row.c [.int .i64 2])]⟩) ⟨by simp[Value.cells],fun w hw=>hw⟩) ax.bf) ?_
     refine aw.rows (cd b1 (34+i) a cap C _ hO (by omega) 27 L[i] (Hd.v ⟨some ⟨bh,0,none⟩,1⟩ 1) (eA _ _)) (fun w hw=>trivial) (fun v F hv'=>?_)
     obtain⟨a',c',C',hO',rfl⟩:=hv'
     conv=>whnf
     repeat (refine aa.of ?_;conv=>whnf)
     refine⟨(i+1,a',c',C',P ++ [(⟨1,L[i],27,[2]⟩,⟨some ⟨bh,0,none⟩,1⟩)]),⟨⟨hlt',g.next hx (cm _ _) (by rw[hl];exact hO')⟩,by dsimp only;omega⟩,?_,?_,ax.of_le ⟨by first | exact List.Sublist.refl _,fun w hw=>⟨hw.1.1.1.next hw.1.2,hw.1.1.2⟩⟩⟩
     · conv=>whnf
       refine⟨?_,rfl⟩
       repeat (first | exact au.nil | refine au.any ?_ | refine au.cons ?_ | refine au.eq (by rw[wrap_i64 (by omega)];rfl) ?_)
     · conv=>whnf
       exact trivial
   · have hie:i=10:=by
      simp[ao,ct] at hlt
      omega
     subst hie
     conv=>whnf
     repeat (refine aa.of ?_;conv=>whnf)
     refine⟨(a,cap,C,P),g,[],⟨by decide,by simp,rfl⟩,?_,ax.of_le ⟨List.Sublist.refl _,fun w hw=>hw.1⟩⟩
     repeat (first | exact au.nil | refine au.any ?_ | refine au.cons ?_)
theorem PG.many {k m:Nat} {P Q:List (Ln×Hd)} {a:Option Addr} {cap:Nat} {C:List Value} (h:PG k P a cap C) (hm:Q.length=m) (hok : ∀ x∈Q,x.2.Ok x.1.l.length) (he:bu.take k++Q.map Prod.fst=bu.take (k+m)) (hlt:k+m≤63) {a':Option Addr} {cap':Nat} {C':List Value} (hO:Sx.cZ 4 (k+m) a' cap' C' (P.flatMap nz++Q.flatMap nz)):PG (k+m) (P++Q) a' cap' C':=by
 have hl:=h.len
 refine⟨?_,fun y hy=>(List.mem_append.1 hy).elim (h.ok y) (hok y),by rw[List.map_append,h.eq];exact he,hlt⟩
 rw[List.length_append,hl,hm,List.flatMap_append]
 exact hO
theorem cF.many {P Q:List (Ln×Hd)} {w:World} (h:cF P w) (hr : ∀ x∈Q,ai w x.2.a (x.1.l.map bt)):cF (P++Q) w:=fun y hy=>(List.mem_append.1 hy).elim (h y) (hr y)
def lH (ks hs:List Int) (h:Hd):List (Ln×Hd):=ks.map fun q=>(⟨2,0,q,hs⟩,h)
theorem gL (ks hs:List Int) (h:Hd):(lH ks hs h).length=ks.length:=by simp[lH]
theorem dw {ks hs:List Int} {h:Hd} {p:Ln×Hd→Prop} (hp : ∀ q,p (⟨2,0,q,hs⟩,h)) : ∀ x∈lH ks hs h,p x:=by
 intro x hx
 obtain⟨q,-,rfl⟩:=List.mem_map.1 hx
 exact hp q
theorem Ew (h:LB 23 44 w0 av b1):LA 22 44 w0 av b1:=by
 intro a cap C P g
 refine az.cr ae 1 (ι:=Hd) (fun x=>x.Ok 10) (fun x=>u5 b1 x) (fun _=>[]) (fun x=>⟨fun w=>cF P w∧ai w x.a ((ct 1).map bt),[]++aF b1 44 a cap C ++ []⟩) ?_ ?_
 rotate_left
 · intro x hx bs' hbs'
   obtain rfl:=List.eq_nil_of_length_eq_zero hbs'
   rw[aS]
   exact h x a cap C P hx g
 · conv=>whnf
   repeat (refine aa.of ?_;conv=>whnf)
   refine aw.pure (dI 1 (by decide)) (fun w hw=>trivial) (fun v F hv=>?_)
   obtain⟨hh,hho,rfl,rfl⟩:=hv
   conv=>whnf
   repeat (refine aa.of ?_;conv=>whnf)
   refine⟨hh,hho,[],⟨by decide,by simp,rfl⟩,?_,ax.of_le ⟨by simp[Fx.and],fun w hw=>hw⟩⟩
   repeat (first | exact au.nil | refine au.any ?_ | refine au.cons ?_)
theorem D3 (h:LB 24 45 w0 av b1):LB 23 44 w0 av b1:=by
 intro hl a cap C P hlo g
 refine az.cr ae 1 (ι:=Option Addr×Nat×List Value×List (Ln×Hd)) (fun x=>PG 45 x.2.2.2 x.1 x.2.1 x.2.2.1) (fun _=>u5 b1 hl) (fun _=>[]) (fun x=>⟨fun w=>cF x.2.2.2 w∧ai w hl.a ((ct 1).map bt),[]++aF b1 45 x.1 x.2.1 x.2.2.1 ++ []⟩) ?_ ?_
 rotate_left
 · intro x hx bs' hbs'
   obtain rfl:=List.eq_nil_of_length_eq_zero hbs'
   rw[aS]
   exact h hl x.1 x.2.1 x.2.2.1 x.2.2.2 hlo hx
 · have hlen:=g.len
   have hO:=g.own
   rw[hlen] at hO
   conv=>whnf
   repeat (refine aa.of ?_;conv=>whnf)
   refine ar.build ae rfl rfl rfl [.int .i64 1] rfl rfl (by simp[Value.cells]) (by decide) fun bk=>?_
   conv=>whnf
   repeat (refine aa.of ?_;conv=>whnf)
   refine aw.bZ (F':=⟨fun w=>(cF P w∧ai w hl.a ((ct 1).map bt))∧ai w (some ⟨bk,0,none⟩) [.int .i64 1],[]++aF b1 44 a cap C ++ []⟩) (ax.trans (ax.of_le (F':=⟨fun w=>(cF P w∧ai w hl.a ((ct 1).map bt)),([]++aF b1 44 a cap C ++ []) ++ [(bk,Row.c [.int .i64 1])]⟩) ⟨by simp[Value.cells],fun w hw=>hw⟩) ax.bf) ?_
   refine aw.rows (dF b1 44 a cap C _ hO (by decide) hl 10 ⟨some ⟨bk,0,none⟩,1⟩ [1] (cm _ _) (by decide)) (fun w hw=>hw.2) (fun v F hv=>?_)
   obtain⟨a',c',C',hO',rfl⟩:=hv
   have hO2:Sx.cZ 4 (44+1) a' c' C' (P.flatMap nz++(lH [1] (ct 1) hl).flatMap nz):=hO'
   conv=>whnf
   repeat (refine aa.of ?_;conv=>whnf)
   refine⟨(a',c',C',P++lH [1] (ct 1) hl),g.many (m:=1) (Q:=lH [1] (ct 1) hl) (gL _ _ _) (dw fun _=>hlo) rfl (by decide) hO2,[],⟨by decide,by simp,rfl⟩,?_,ax.of_le ⟨by simp,fun w hw=>⟨(hw.1.1.1).many (dw fun _=>hw.1.1.2),hw.1.1.2⟩⟩⟩
   repeat (first | exact au.nil | refine au.any ?_ | refine au.cons ?_)
theorem DW (h:LB 25 46 w0 av b1):LB 24 45 w0 av b1:=by
 intro hl a cap C P hlo g
 refine az.cr ae 1 (ι:=Option Addr×Nat×List Value×List (Ln×Hd)) (fun x=>PG 46 x.2.2.2 x.1 x.2.1 x.2.2.1) (fun _=>u5 b1 hl) (fun _=>[]) (fun x=>⟨fun w=>cF x.2.2.2 w∧ai w hl.a ((ct 1).map bt),[]++aF b1 46 x.1 x.2.1 x.2.2.1 ++ []⟩) ?_ ?_
 rotate_left
 · intro x hx bs' hbs'
   obtain rfl:=List.eq_nil_of_length_eq_zero hbs'
   rw[aS]
   exact h hl x.1 x.2.1 x.2.2.1 x.2.2.2 hlo hx
 · have hlen:=g.len
   have hO:=g.own
   rw[hlen] at hO
   conv=>whnf
   repeat (refine aa.of ?_;conv=>whnf)
   refine ar.build ae rfl rfl rfl [.int .i64 3,.int .i64 4,.int .i64 5,.int .i64 10] rfl rfl (by simp[Value.cells]) (by decide) fun bh=>?_
   conv=>whnf
   repeat (refine aa.of ?_;conv=>whnf)
   refine ar.build ae rfl rfl rfl [.int .i64 2] rfl rfl (by simp[Value.cells]) (by decide) fun bk=>?_
   conv=>whnf
   repeat (refine aa.of ?_;conv=>whnf)
   refine aw.bZ (F':=⟨fun w=>((cF P w∧ai w hl.a ((ct 1).map bt))∧ai w (some ⟨bh,0,none⟩) [.int .i64 3,.int .i64 4,.int .i64 5,.int .i64 10])∧ai w (some ⟨bk,0,none⟩) [.int .i64 2],[]++aF b1 45 a cap C ++ []⟩) (ax.trans (ax.of_le (F':=⟨fun w=>(cF P w∧ai w hl.a ((ct 1).map bt)),(([]++aF b1 45 a cap C ++ []) ++ [(bh,Row.c [.int .i64 3,.int .i64 4,.int .i64 5,.int .i64 10])]) ++ [(bk,Row.c [.int .i64 2])]⟩) ⟨by simp[Value.cells],fun w hw=>hw⟩) (ax.trans ax.bf (ax.trans ax.bf (ax.imp fun w hw=>⟨⟨hw.1.1,hw.2⟩,hw.1.2⟩)))) ?_
   refine aw.rows (dF b1 45 a cap C _ hO (by decide) (⟨some ⟨bh,0,none⟩,4⟩:Hd) 4 ⟨some ⟨bk,0,none⟩,1⟩ [2] (cm _ _) (by decide)) (fun w hw=>hw.2) (fun v F hv=>?_)
   obtain⟨a',c',C',hO',rfl⟩:=hv
   have hO2:Sx.cZ 4 (45+1) a' c' C' (P.flatMap nz++(lH [2] [3,4,5,10] (⟨some ⟨bh,0,none⟩,4⟩:Hd)).flatMap nz):=hO'
   conv=>whnf
   repeat (refine aa.of ?_;conv=>whnf)
   refine⟨(a',c',C',P++lH [2] [3,4,5,10] (⟨some ⟨bh,0,none⟩,4⟩:Hd)),g.many (m:=1) (Q:=lH [2] [3,4,5,10] (⟨some ⟨bh,0,none⟩,4⟩:Hd)) (gL _ _ _) (dw fun _=>cm _ _) rfl (by decide) hO2,[],⟨by decide,by simp,rfl⟩,?_,ax.of_le ⟨by simp,fun w hw=>⟨(hw.1.1.1.1).many (dw fun _=>hw.1.1.2),hw.1.1.1.2⟩⟩⟩
   repeat (first | exact au.nil | refine au.any ?_ | refine au.cons ?_)
theorem D1 (h:LB 26 47 w0 av b1):LB 25 46 w0 av b1:=by
 intro hl a cap C P hlo g
 refine az.cr ae 1 (ι:=Option Addr×Nat×List Value×List (Ln×Hd)) (fun x=>PG 47 x.2.2.2 x.1 x.2.1 x.2.2.1) (fun _=>u5 b1 hl) (fun _=>[]) (fun x=>⟨fun w=>cF x.2.2.2 w∧ai w hl.a ((ct 1).map bt),[]++aF b1 47 x.1 x.2.1 x.2.2.1 ++ []⟩) ?_ ?_
 rotate_left
 · intro x hx bs' hbs'
   obtain rfl:=List.eq_nil_of_length_eq_zero hbs'
   rw[aS]
   exact h hl x.1 x.2.1 x.2.2.1 x.2.2.2 hlo hx
 · have hlen:=g.len
   have hO:=g.own
   rw[hlen] at hO
   conv=>whnf
   repeat (refine aa.of ?_;conv=>whnf)
   refine ar.build ae rfl rfl rfl [.int .i64 7,.int .i64 8,.int .i64 9] rfl rfl (by simp[Value.cells]) (by decide) fun bh=>?_
   conv=>whnf
   repeat (refine aa.of ?_;conv=>whnf)
   refine ar.build ae rfl rfl rfl [.int .i64 3] rfl rfl (by simp[Value.cells]) (by decide) fun bk=>?_
   conv=>whnf
   repeat (refine aa.of ?_;conv=>whnf)
   refine aw.bZ (F':=⟨fun w=>((cF P w∧ai w hl.a ((ct 1).map bt))∧ai w (some ⟨bh,0,none⟩) [.int .i64 7,.int .i64 8,.int .i64 9])∧ai w (some ⟨bk,0,none⟩) [.int .i64 3],[]++aF b1 46 a cap C ++ []⟩) (ax.trans (ax.of_le (F':=⟨fun w=>(cF P w∧ai w hl.a ((ct 1).map bt)),(([]++aF b1 46 a cap C ++ []) ++ [(bh,Row.c [.int .i64 7,.int .i64 8,.int .i64 9])]) ++ [(bk,Row.c [.int .i64 3])]⟩) ⟨by simp[Value.cells],fun w hw=>hw⟩) (ax.trans ax.bf (ax.trans ax.bf (ax.imp fun w hw=>⟨⟨hw.1.1,hw.2⟩,hw.1.2⟩)))) ?_
   refine aw.rows (dF b1 46 a cap C _ hO (by decide) (⟨some ⟨bh,0,none⟩,3⟩:Hd) 3 ⟨some ⟨bk,0,none⟩,1⟩ [3] (cm _ _) (by decide)) (fun w hw=>hw.2) (fun v F hv=>?_)
   obtain⟨a',c',C',hO',rfl⟩:=hv
   have hO2:Sx.cZ 4 (46+1) a' c' C' (P.flatMap nz++(lH [3] [7,8,9] (⟨some ⟨bh,0,none⟩,3⟩:Hd)).flatMap nz):=hO'
   conv=>whnf
   repeat (refine aa.of ?_;conv=>whnf)
   refine⟨(a',c',C',P++lH [3] [7,8,9] (⟨some ⟨bh,0,none⟩,3⟩:Hd)),g.many (m:=1) (Q:=lH [3] [7,8,9] (⟨some ⟨bh,0,none⟩,3⟩:Hd)) (gL _ _ _) (dw fun _=>cm _ _) rfl (by decide) hO2,[],⟨by decide,by simp,rfl⟩,?_,ax.of_le ⟨by simp,fun w hw=>⟨(hw.1.1.1.1).many (dw fun _=>hw.1.1.2),hw.1.1.1.2⟩⟩⟩
   repeat (first | exact au.nil | refine au.any ?_ | refine au.cons ?_)
theorem Eg (h:LA 27 48 w0 av b1):LB 26 47 w0 av b1:=by
 intro hl a cap C P hlo g
 refine az.cr ae 1 (ι:=Option Addr×Nat×List Value×List (Ln×Hd)) (fun x=>PG 48 x.2.2.2 x.1 x.2.1 x.2.2.1) (fun _=>eV b1) (fun _=>[]) (fun x=>⟨cF x.2.2.2,[]++aF b1 48 x.1 x.2.1 x.2.2.1 ++ []⟩) ?_ ?_
 rotate_left
 · intro x hx bs' hbs'
   obtain rfl:=List.eq_nil_of_length_eq_zero hbs'
   rw[aS]
   exact h x.1 x.2.1 x.2.2.1 x.2.2.2 hx
 · have hlen:=g.len
   have hO:=g.own
   rw[hlen] at hO
   conv=>whnf
   repeat (refine aa.of ?_;conv=>whnf)
   refine ar.build ae rfl rfl rfl [.int .i64 4] rfl rfl (by simp[Value.cells]) (by decide) fun bk=>?_
   conv=>whnf
   repeat (refine aa.of ?_;conv=>whnf)
   refine aw.bZ (F':=⟨fun w=>(cF P w∧ai w hl.a ((ct 1).map bt))∧ai w (some ⟨bk,0,none⟩) [.int .i64 4],[]++aF b1 47 a cap C ++ []⟩) (ax.trans (ax.of_le (F':=⟨fun w=>(cF P w∧ai w hl.a ((ct 1).map bt)),([]++aF b1 47 a cap C ++ []) ++ [(bk,Row.c [.int .i64 4])]⟩) ⟨by simp[Value.cells],fun w hw=>hw⟩) ax.bf) ?_
   refine aw.rows (dF b1 47 a cap C _ hO (by decide) hl 10 ⟨some ⟨bk,0,none⟩,1⟩ [4] (cm _ _) (by decide)) (fun w hw=>hw.2) (fun v F hv=>?_)
   obtain⟨a',c',C',hO',rfl⟩:=hv
   have hO2:Sx.cZ 4 (47+1) a' c' C' (P.flatMap nz++(lH [4] (ct 1) hl).flatMap nz):=hO'
   conv=>whnf
   repeat (refine aa.of ?_;conv=>whnf)
   refine⟨(a',c',C',P++lH [4] (ct 1) hl),g.many (m:=1) (Q:=lH [4] (ct 1) hl) (gL _ _ _) (dw fun _=>hlo) rfl (by decide) hO2,[],⟨by decide,by simp,rfl⟩,?_,ax.of_le ⟨by simp,fun w hw=>(hw.1.1.1).many (dw fun _=>hw.1.1.2)⟩⟩
   repeat (first | exact au.nil | refine au.any ?_ | refine au.cons ?_)
theorem Es (h:LA 28 54 w0 av b1):LA 27 48 w0 av b1:=by
 intro a cap C P g
 refine az.cr ae 1 (ι:=Option Addr×Nat×List Value×List (Ln×Hd)) (fun x=>PG 54 x.2.2.2 x.1 x.2.1 x.2.2.1) (fun _=>eV b1) (fun _=>[]) (fun x=>⟨cF x.2.2.2,[]++aF b1 54 x.1 x.2.1 x.2.2.1 ++ []⟩) ?_ ?_
 rotate_left
 · intro x hx bs' hbs'
   obtain rfl:=List.eq_nil_of_length_eq_zero hbs'
   rw[aS]
   exact h x.1 x.2.1 x.2.2.1 x.2.2.2 hx
 · have hlen:=g.len
   have hO:=g.own
   rw[hlen] at hO
   conv=>whnf
   repeat (refine aa.of ?_;conv=>whnf)
   refine ar.build ae rfl rfl rfl [.int .i64 4] rfl rfl (by simp[Value.cells]) (by decide) fun bh=>?_
   conv=>whnf
   repeat (refine aa.of ?_;conv=>whnf)
   refine ar.build ae rfl rfl rfl [.int .i64 5,.int .i64 6,.int .i64 7,.int .i64 8,.int .i64 9,.int .i64 10] rfl rfl (by simp[Value.cells]) (by decide) fun bk=>?_
   conv=>whnf
   repeat (refine aa.of ?_;conv=>whnf)
   refine aw.bZ (F':=⟨fun w=>(cF P w∧ai w (some ⟨bh,0,none⟩) [.int .i64 4])∧ai w (some ⟨bk,0,none⟩) [.int .i64 5,.int .i64 6,.int .i64 7,.int .i64 8,.int .i64 9,.int .i64 10],[]++aF b1 48 a cap C ++ []⟩) (ax.trans (ax.of_le (F':=⟨fun w=>cF P w,(([]++aF b1 48 a cap C ++ []) ++ [(bh,Row.c [.int .i64 4])]) ++ [(bk,Row.c [.int .i64 5,.int .i64 6,.int .i64 7,.int .i64 8,.int .i64 9,.int .i64 10])]⟩) ⟨by simp[Value.cells],fun w hw=>hw⟩) (ax.trans ax.bf (ax.trans ax.bf (ax.imp fun w hw=>⟨⟨hw.1.1,hw.2⟩,hw.1.2⟩)))) ?_
   refine aw.rows (dF b1 48 a cap C _ hO (by decide) (⟨some ⟨bh,0,none⟩,1⟩:Hd) 1 ⟨some ⟨bk,0,none⟩,6⟩ [5,6,7,8,9,10] (cm _ _) (by decide)) (fun w hw=>hw.2) (fun v F hv=>?_)
   obtain⟨a',c',C',hO',rfl⟩:=hv
   have hO2:Sx.cZ 4 (48+6) a' c' C' (P.flatMap nz++(lH [5,6,7,8,9,10] [4] (⟨some ⟨bh,0,none⟩,1⟩:Hd)).flatMap nz):=hO'
   conv=>whnf
   repeat (refine aa.of ?_;conv=>whnf)
   refine⟨(a',c',C',P++lH [5,6,7,8,9,10] [4] (⟨some ⟨bh,0,none⟩,1⟩:Hd)),g.many (m:=6) (Q:=lH [5,6,7,8,9,10] [4] (⟨some ⟨bh,0,none⟩,1⟩:Hd)) (gL _ _ _) (dw fun _=>cm _ _) rfl (by decide) hO2,[],⟨by decide,by simp,rfl⟩,?_,ax.of_le ⟨by simp,fun w hw=>(hw.1.1.1).many (dw fun _=>hw.1.1.2)⟩⟩
   repeat (first | exact au.nil | refine au.any ?_ | refine au.cons ?_)
theorem Ee (h:LA 29 58 w0 av b1):LA 28 54 w0 av b1:=by
 intro a cap C P g
 refine az.cr ae 1 (ι:=Option Addr×Nat×List Value×List (Ln×Hd)) (fun x=>PG 58 x.2.2.2 x.1 x.2.1 x.2.2.1) (fun _=>eV b1) (fun _=>[]) (fun x=>⟨cF x.2.2.2,[]++aF b1 58 x.1 x.2.1 x.2.2.1 ++ []⟩) ?_ ?_
 rotate_left
 · intro x hx bs' hbs'
   obtain rfl:=List.eq_nil_of_length_eq_zero hbs'
   rw[aS]
   exact h x.1 x.2.1 x.2.2.1 x.2.2.2 hx
 · have hlen:=g.len
   have hO:=g.own
   rw[hlen] at hO
   conv=>whnf
   repeat (refine aa.of ?_;conv=>whnf)
   refine ar.build ae rfl rfl rfl [.int .i64 3] rfl rfl (by simp[Value.cells]) (by decide) fun bh=>?_
   conv=>whnf
   repeat (refine aa.of ?_;conv=>whnf)
   refine ar.build ae rfl rfl rfl [.int .i64 11,.int .i64 12,.int .i64 13,.int .i64 14] rfl rfl (by simp[Value.cells]) (by decide) fun bk=>?_
   conv=>whnf
   repeat (refine aa.of ?_;conv=>whnf)
   refine aw.bZ (F':=⟨fun w=>(cF P w∧ai w (some ⟨bh,0,none⟩) [.int .i64 3])∧ai w (some ⟨bk,0,none⟩) [.int .i64 11,.int .i64 12,.int .i64 13,.int .i64 14],[]++aF b1 54 a cap C ++ []⟩) (ax.trans (ax.of_le (F':=⟨fun w=>cF P w,(([]++aF b1 54 a cap C ++ []) ++ [(bh,Row.c [.int .i64 3])]) ++ [(bk,Row.c [.int .i64 11,.int .i64 12,.int .i64 13,.int .i64 14])]⟩) ⟨by simp[Value.cells],fun w hw=>hw⟩) (ax.trans ax.bf (ax.trans ax.bf (ax.imp fun w hw=>⟨⟨hw.1.1,hw.2⟩,hw.1.2⟩)))) ?_
   refine aw.rows (dF b1 54 a cap C _ hO (by decide) (⟨some ⟨bh,0,none⟩,1⟩:Hd) 1 ⟨some ⟨bk,0,none⟩,4⟩ [11,12,13,14] (cm _ _) (by decide)) (fun w hw=>hw.2) (fun v F hv=>?_)
   obtain⟨a',c',C',hO',rfl⟩:=hv
   have hO2:Sx.cZ 4 (54+4) a' c' C' (P.flatMap nz++(lH [11,12,13,14] [3] (⟨some ⟨bh,0,none⟩,1⟩:Hd)).flatMap nz):=hO'
   conv=>whnf
   repeat (refine aa.of ?_;conv=>whnf)
   refine⟨(a',c',C',P++lH [11,12,13,14] [3] (⟨some ⟨bh,0,none⟩,1⟩:Hd)),g.many (m:=4) (Q:=lH [11,12,13,14] [3] (⟨some ⟨bh,0,none⟩,1⟩:Hd)) (gL _ _ _) (dw fun _=>cm _ _) rfl (by decide) hO2,[],⟨by decide,by simp,rfl⟩,?_,ax.of_le ⟨by simp,fun w hw=>(hw.1.1.1).many (dw fun _=>hw.1.1.2)⟩⟩
   repeat (first | exact au.nil | refine au.any ?_ | refine au.cons ?_)
theorem D8 (h:LA 30 59 w0 av b1):LA 29 58 w0 av b1:=by
 intro a cap C P g
 refine az.cr ae 1 (ι:=Option Addr×Nat×List Value×List (Ln×Hd)) (fun x=>PG 59 x.2.2.2 x.1 x.2.1 x.2.2.1) (fun _=>eV b1) (fun _=>[]) (fun x=>⟨cF x.2.2.2,[]++aF b1 59 x.1 x.2.1 x.2.2.1 ++ []⟩) ?_ ?_
 rotate_left
 · intro x hx bs' hbs'
   obtain rfl:=List.eq_nil_of_length_eq_zero hbs'
   rw[aS]
   exact h x.1 x.2.1 x.2.2.1 x.2.2.2 hx
 · have hlen:=g.len
   have hO:=g.own
   rw[hlen] at hO
   conv=>whnf
   repeat (refine aa.of ?_;conv=>whnf)
   refine ar.build ae rfl rfl rfl [.int .i64 5] rfl rfl (by simp[Value.cells]) (by decide) fun bh=>?_
   conv=>whnf
   repeat (refine aa.of ?_;conv=>whnf)
   refine ar.build ae rfl rfl rfl [.int .i64 15] rfl rfl (by simp[Value.cells]) (by decide) fun bk=>?_
   conv=>whnf
   repeat (refine aa.of ?_;conv=>whnf)
   refine aw.bZ (F':=⟨fun w=>(cF P w∧ai w (some ⟨bh,0,none⟩) [.int .i64 5])∧ai w (some ⟨bk,0,none⟩) [.int .i64 15],[]++aF b1 58 a cap C ++ []⟩) (ax.trans (ax.of_le (F':=⟨fun w=>cF P w,(([]++aF b1 58 a cap C ++ []) ++ [(bh,Row.c [.int .i64 5])]) ++ [(bk,Row.c [.int .i64 15])]⟩) ⟨by simp[Value.cells],fun w hw=>hw⟩) (ax.trans ax.bf (ax.trans ax.bf (ax.imp fun w hw=>⟨⟨hw.1.1,hw.2⟩,hw.1.2⟩)))) ?_
   refine aw.rows (dF b1 58 a cap C _ hO (by decide) (⟨some ⟨bh,0,none⟩,1⟩:Hd) 1 ⟨some ⟨bk,0,none⟩,1⟩ [15] (cm _ _) (by decide)) (fun w hw=>hw.2) (fun v F hv=>?_)
   obtain⟨a',c',C',hO',rfl⟩:=hv
   have hO2:Sx.cZ 4 (58+1) a' c' C' (P.flatMap nz++(lH [15] [5] (⟨some ⟨bh,0,none⟩,1⟩:Hd)).flatMap nz):=hO'
   conv=>whnf
   repeat (refine aa.of ?_;conv=>whnf)
   refine⟨(a',c',C',P++lH [15] [5] (⟨some ⟨bh,0,none⟩,1⟩:Hd)),g.many (m:=1) (Q:=lH [15] [5] (⟨some ⟨bh,0,none⟩,1⟩:Hd)) (gL _ _ _) (dw fun _=>cm _ _) rfl (by decide) hO2,[],⟨by decide,by simp,rfl⟩,?_,ax.of_le ⟨by simp,fun w hw=>(hw.1.1.1).many (dw fun _=>hw.1.1.2)⟩⟩
   repeat (first | exact au.nil | refine au.any ?_ | refine au.cons ?_)
theorem DZ (h:LA 31 60 w0 av b1):LA 30 59 w0 av b1:=by
 intro a cap C P g
 refine az.cr ae 1 (ι:=Option Addr×Nat×List Value×List (Ln×Hd)) (fun x=>PG 60 x.2.2.2 x.1 x.2.1 x.2.2.1) (fun _=>eV b1) (fun _=>[]) (fun x=>⟨cF x.2.2.2,[]++aF b1 60 x.1 x.2.1 x.2.2.1 ++ []⟩) ?_ ?_
 rotate_left
 · intro x hx bs' hbs'
   obtain rfl:=List.eq_nil_of_length_eq_zero hbs'
   rw[aS]
   exact h x.1 x.2.1 x.2.2.1 x.2.2.2 hx
 · have hlen:=g.len
   have hO:=g.own
   rw[hlen] at hO
   conv=>whnf
   repeat (refine aa.of ?_;conv=>whnf)
   refine ar.build ae rfl rfl rfl [.int .i64 1] rfl rfl (by simp[Value.cells]) (by decide) fun bh=>?_
   conv=>whnf
   repeat (refine aa.of ?_;conv=>whnf)
   refine ar.build ae rfl rfl rfl [.int .i64 16] rfl rfl (by simp[Value.cells]) (by decide) fun bk=>?_
   conv=>whnf
   repeat (refine aa.of ?_;conv=>whnf)
   refine aw.bZ (F':=⟨fun w=>(cF P w∧ai w (some ⟨bh,0,none⟩) [.int .i64 1])∧ai w (some ⟨bk,0,none⟩) [.int .i64 16],[]++aF b1 59 a cap C ++ []⟩) (ax.trans (ax.of_le (F':=⟨fun w=>cF P w,(([]++aF b1 59 a cap C ++ []) ++ [(bh,Row.c [.int .i64 1])]) ++ [(bk,Row.c [.int .i64 16])]⟩) ⟨by simp[Value.cells],fun w hw=>hw⟩) (ax.trans ax.bf (ax.trans ax.bf (ax.imp fun w hw=>⟨⟨hw.1.1,hw.2⟩,hw.1.2⟩)))) ?_
   refine aw.rows (dF b1 59 a cap C _ hO (by decide) (⟨some ⟨bh,0,none⟩,1⟩:Hd) 1 ⟨some ⟨bk,0,none⟩,1⟩ [16] (cm _ _) (by decide)) (fun w hw=>hw.2) (fun v F hv=>?_)
   obtain⟨a',c',C',hO',rfl⟩:=hv
   have hO2:Sx.cZ 4 (59+1) a' c' C' (P.flatMap nz++(lH [16] [1] (⟨some ⟨bh,0,none⟩,1⟩:Hd)).flatMap nz):=hO'
   conv=>whnf
   repeat (refine aa.of ?_;conv=>whnf)
   refine⟨(a',c',C',P++lH [16] [1] (⟨some ⟨bh,0,none⟩,1⟩:Hd)),g.many (m:=1) (Q:=lH [16] [1] (⟨some ⟨bh,0,none⟩,1⟩:Hd)) (gL _ _ _) (dw fun _=>cm _ _) rfl (by decide) hO2,[],⟨by decide,by simp,rfl⟩,?_,ax.of_le ⟨by simp,fun w hw=>(hw.1.1.1).many (dw fun _=>hw.1.1.2)⟩⟩
   repeat (first | exact au.nil | refine au.any ?_ | refine au.cons ?_)
theorem Ed (h:LA 32 63 w0 av b1):LA 31 60 w0 av b1:=by
 intro a cap C P g
 refine az.cr ae 1 (ι:=Option Addr×Nat×List Value×List (Ln×Hd)) (fun x=>PG 63 x.2.2.2 x.1 x.2.1 x.2.2.1) (fun _=>eV b1) (fun _=>[]) (fun x=>⟨cF x.2.2.2,[]++aF b1 63 x.1 x.2.1 x.2.2.1 ++ []⟩) ?_ ?_
 rotate_left
 · intro x hx bs' hbs'
   obtain rfl:=List.eq_nil_of_length_eq_zero hbs'
   rw[aS]
   exact h x.1 x.2.1 x.2.2.1 x.2.2.2 hx
 · conv=>whnf
   repeat (refine aa.of ?_;conv=>whnf)
   refine ar.build ae rfl rfl rfl [.int .i64 7,.int .i64 8,.int .i64 9] rfl rfl (by simp[Value.cells]) (by decide) fun bv=>?_
   conv=>whnf
   repeat (refine aa.of ?_;conv=>whnf)
   obtain⟨L,hL⟩ : ∃ L:List Int,L = [7,8,9]:=⟨_,rfl⟩
   have hE:ax (⟨cF P,([]++aF b1 60 a cap C ++ []) ++ [(bv,Row.c [.int .i64 7,.int .i64 8,.int .i64 9])]⟩:Fx) ⟨fun w=>cF P w∧ai w (some ⟨bv,0,none⟩) (L.map bt),[]++aF b1 (60+0) a cap C ++ []⟩:=by rw[hL];exact ax.bf
   have hLl:L.length=3:=by rw[hL];decide
   have hLn : ∀ i,i<3→bu[60+i]? = some ⟨3,0,((1+i:Nat):Int),[L[i]!]⟩:=by rw[hL];decide
   refine az.loop ae (ι:=Nat×Option Addr×Nat×List Value×List (Ln×Hd)) ([13,14,121]++List.range' 122 14) (fun x=>x.1≤3∧PG (60+x.1) x.2.2.2.2 x.2.1 x.2.2.1 x.2.2.2.1) (fun x=>[(121,.v (.int .i64 (x.1:Int)))]) (fun _=>[])
    (fun x=>⟨fun w=>cF x.2.2.2.2 w∧ai w (some ⟨bv,0,none⟩) (L.map bt),[]++aF b1 (60+x.1) x.2.1 x.2.2.1 x.2.2.2.1 ++ []⟩) (fun x=>3 - x.1) (0,a,cap,C,P) ⟨Nat.zero_le _,g⟩ ?_ rfl (ax.trans (ax.of_le ⟨by simp[Value.cells],fun w hw=>hw⟩) hE) fun x hx=>?_
   · conv=>whnf
     repeat (first | exact au.nil | refine au.any ?_ | refine au.cons ?_)
   clear g hE
   obtain⟨i,a,cap,C,P⟩:=x
   obtain⟨hi,g⟩:=hx
   dsimp only at hi g ⊢
   have hl:=g.len
   have hO:=g.own
   rw[hl] at hO
   conv=>whnf
   repeat (refine aa.of ?_;conv=>whnf)
   refine bF.split (fun hlt=>?_) (fun hlt=>?_)
   · have hlt':i<3:=by
      simp[ao] at hlt
      omega
     have hx:=hLn i hlt'
     have hLi:L[i]! = L[i]:=by simp[hLl,hlt']
     rw[hLi] at hx
     have hw1:IntKind.i64.wrap (1+(i:Int))=((1+i:Nat):Int):=by rw[wrap_i64 (by omega)];omega
     conv=>whnf
     repeat (refine aa.of ?_;conv=>whnf)
     refine ar.aj (ak.index ae rfl rfl rfl (by omega) (by omega) (fun h=>by cases h) fun ad had=>?_)
     conv=>whnf
     repeat (refine aa.of ?_;conv=>whnf)
     refine ar.aj (ak.load ae rfl rfl (ad:=ad) (k:=i) (L:=L.map bt) (v:=.int .i64 L[i]) (.fact fun w hw=>had ▸ hw.2) (by simp) (by rw[List.getElem?_map,List.getElem?_eq_getElem (by omega)];rfl) ?_)
     conv=>whnf
     repeat (refine aa.of ?_;conv=>whnf)
     refine ar.aj (ak.aH ae rfl rfl (ad:=⟨b1,0,none⟩) (k:=0) (L:=[.slice a (60+i) cap]) (v:=.slice a (60+i) cap) (aK.row (by simp[aF])) (fun _=>rfl) rfl ?_)
     conv=>whnf
     repeat (refine aa.of ?_;conv=>whnf)
     refine ar.build ae rfl rfl rfl [.int .i64 L[i]] rfl rfl (by simp[Value.cells]) (by decide) fun bh=>?_
     conv=>whnf
     repeat (refine aa.of ?_;conv=>whnf)
     refine ar.build ae rfl rfl rfl [.agg ⟨[bt 3,bt 0,.int .i64 (IntKind.i64.wrap (1+(i:Int))),.slice (some ⟨bh,0,none⟩) 1 1]⟩] rfl rfl (by simp[Value.cells]) (by decide) fun b5=>?_
     rw[hw1]
     conv=>whnf
     repeat (refine aa.of ?_;conv=>whnf)
     refine ar.bZ (F':=⟨fun w=>(cF P w∧ai w (some ⟨bv,0,none⟩) (L.map bt))∧ai w (some ⟨bh,0,none⟩) [.int .i64 L[i]],[(b1,Row.c [.slice a (60+i) cap])]++bo a C ++ [(b5,Row.c [bt 3,bt 0,.int .i64 ((1+i:Nat):Int),.slice (some ⟨bh,0,none⟩) 1 1])]⟩)
      (ax.trans (ax.perm (rs':=([(b1,Row.c [.slice a (60+i) cap])]++bo a C ++ [(b5,Row.c [bt 3,bt 0,.int .i64 ((1+i:Nat):Int),.slice (some ⟨bh,0,none⟩) 1 1])]) ++ [(bh,Row.c [.int .i64 L[i]])]) (by simp[Value.cells,aF];exact List.Perm.append_left _ (List.Perm.swap _ _ _))) ax.bf) ?_
     refine ar.fk ae rfl rfl rfl rfl rfl rfl (M:=[bt 3,bt 0,.int .i64 ((1+i:Nat):Int),.slice (some ⟨bh,0,none⟩) 1 1]) hO (aK.row (by simp)) rfl (List.all_eq_true.1 (by rfl)) (by omega) (by show(60+i+(60+i)/4+600)*48≤2 ^ 48;omega) fun a' c' C' hO'=>?_
     conv=>whnf
     repeat (refine aa.of ?_;conv=>whnf)
     refine aP.bZ (F':=⟨fun w=>(cF P w∧ai w (some ⟨bv,0,none⟩) (L.map bt))∧ai w (some ⟨bh,0,none⟩) [.int .i64 L[i]],[] ++ [(b1,Row.c [.slice a (60+i) cap])]++bo a' C'⟩) (ax.of_le ⟨by simp,fun w hw=>hw⟩) ?_
     refine aP.aX ae rfl (b:=b1) (k:=0) (X:=[.slice a' (60+i+1) c']) rfl rfl (List.all_eq_true.1 (by rfl)) (Nat.le_refl _) rfl ?_
     conv=>whnf
     repeat (refine aa.of ?_;conv=>whnf)
     refine⟨(i+1,a',c',C',P ++ [(⟨3,0,((1+i:Nat):Int),[L[i]]⟩,⟨some ⟨bh,0,none⟩,1⟩)]),⟨⟨hlt',g.next hx (cm _ _) (by rw[hl];exact hO')⟩,by dsimp only;omega⟩,?_,?_,ax.of_le ⟨by simp[aF];exact List.Sublist.refl _,fun w hw=>⟨hw.1.1.next hw.2,hw.1.2⟩⟩⟩
     · conv=>whnf
       refine⟨?_,rfl⟩
       repeat (first | exact au.nil | refine au.any ?_ | refine au.cons ?_ | refine au.eq (by rw[wrap_i64 (by omega)];rfl) ?_)
     · conv=>whnf
       exact trivial
   · have hie:i=3:=by
      simp[ao] at hlt
      omega
     subst hie
     conv=>whnf
     repeat (refine aa.of ?_;conv=>whnf)
     refine⟨(a,cap,C,P),g,[],⟨by decide,by simp,rfl⟩,?_,ax.of_le ⟨List.Sublist.refl _,fun w hw=>hw.1⟩⟩
     repeat (first | exact au.nil | refine au.any ?_ | refine au.cons ?_)
theorem Ey:LA 32 63 w0 av b1:=by
 intro a cap C P g
 have hl:=g.len
 have hO:=g.own
 rw[hl] at hO
 obtain⟨b,hb⟩ : ∃ ad:Addr,a=some ad:=by
  rcases hO.alt with⟨-,-,hc⟩ | ⟨b',hb,-⟩
  · have:=hO.fit
    omega
  · exact⟨_,hb⟩
 have hfit:=hO.fit
 refine az.aG ae ?_
 conv=>whnf
 repeat (refine aa.of ?_;conv=>whnf)
 refine ar.aj (ak.aH ae rfl rfl (ad:=⟨b1,0,none⟩) (k:=0) (L:=[.slice a 63 cap]) (v:=.slice a 63 cap) (aK.row (by simp[aF])) (fun _=>rfl) rfl ?_)
 conv=>whnf
 repeat (refine aa.of ?_;conv=>whnf)
 refine⟨⟨fun w=>ai w a (P.flatMap nz)∧cF P w,[]⟩,ax.trans (ax.of_le (F':=⟨cF P,[]++bo a C ++ []⟩) ⟨by simp[aF],fun w hw=>hw⟩) (ax.trans (hO.share (r1:=[]) (r2:=[])) (ax.imp fun w hw=>⟨hw.2,hw.1⟩)),P,b,cap,by rw[g.eq];rfl,g.ok,hfit,by rw[hb],by rw[hb]⟩
end
theorem vo:af Tryz.prog 76 [] (fun _=>True) BM:=by
 refine af.iL ae Tryz.func76 (c:=rC) rfl (by decide) (n:=Tryz.f76.ntmps - 0) rfl fun w0 av=>?_
 show az Tryz.prog w0 (fun _ _=>False) av rC _ [] [] _ yV
 refine az.cr ae 2 (ι:=Nat) (fun _=>True) (fun b1=>eV b1) (fun _=>[]) (fun b1=>⟨cF [],[]++aF b1 0 none 0 [] ++ []⟩) ?_ ?_
 · conv=>whnf
   repeat (refine aa.of ?_;conv=>whnf)
   refine ar.cT ae rfl (z:=[.slice none 0 0]) rfl fun b1=>?_
   conv=>whnf
   repeat (refine aa.of ?_;conv=>whnf)
   refine⟨b1,trivial,[],⟨by decide,by simp,rfl⟩,?_,ax.of_le ⟨by simp[aF,bo],fun w hw x hx=>by cases hx⟩⟩
   repeat (first | exact au.nil | refine au.any ?_ | refine au.cons ?_)
 · intro b1 _ bs' hbs'
   obtain rfl:=List.eq_nil_of_length_eq_zero hbs'
   exact EL (ER (EF (ET (EI (EU (ES (EG (Eu (D9 (D5 (DQ (Ea (D6 (EA (Er (Ec (Eh (DP (Ex (Ew (D3 (DW (D1 (Eg (Es (Ee (D8 (DZ (Ed Ey))))))))))))))))))))))))))))) none 0 [] [] ⟨Sx.cZ.nil 4,fun x hx=>(by cases hx),rfl,by decide⟩
theorem wg:af Tryz.prog 76 [] (fun _=>True)
 (fun v F=>∃ (a:Addr) (c:Nat) (hd:Nat→Hd),bu.length≤c∧(∀ j,j<bu.length→(hd j).Ok (bu[j]!).l.length)∧v = .slice (some a) bu.length c∧
  F=⟨fun w=>ai w (some a) ((List.range bu.length).flatMap fun j=>yf bu[j]! (hd j))∧∀ j,j<bu.length→ai w (hd j).a (bu[j]!.l.map bt),[]⟩):=by
 refine vo.weaken fun v F hv=>?_
 obtain⟨P,a,c,h1,h2,h3,rfl,rfl⟩:=hv
 have hl:P.length=bu.length:=by rw[← h1,List.length_map]
 have hg : ∀ j (hj:j<P.length),bu[j]! = P[j].1:=fun j hj=>by
  rw[getElem!_pos bu j (by omega)]
  have:(P.map Prod.fst)[j]'(by simpa using hj)=P[j].1:=by simp
  rw[← this]
  congr 1
  exact h1.symm
 let hd:Nat→Hd:=fun j=>if h:j<P.length then P[j].2 else Hd.nil
 have hh : ∀ j (hj:j<P.length),hd j=P[j].2:=fun j hj=>dif_pos hj
 have hP:P=(List.range P.length).map fun j=>(bu[j]!,hd j):=by
  apply List.ext_getElem
  · simp
  · intro j hj1 hj2
    rw[List.getElem_map,List.getElem_range,hg j hj1,hh j hj1]
 have hf:P.flatMap nz=(List.range bu.length).flatMap fun j=>yf bu[j]! (hd j):=by
  rw[hP,List.flatMap_map,hl]
  rfl
 refine⟨_,ax.imp (D':=fun w=>ai w (some a) ((List.range bu.length).flatMap fun j=>yf bu[j]! (hd j))∧∀ j,j<bu.length→ai w (hd j).a (bu[j]!.l.map bt)) fun w hw=>⟨hf ▸ hw.1,fun j hj=>?_⟩,a,c,hd,h3,fun j hj=>?_,rfl,rfl⟩
 · rw[hh j (by omega),hg j (by omega)]
   exact hw.2 _ (List.getElem_mem _)
 · rw[hh j (by omega),hg j (by omega)]
   exact h2 _ (List.getElem_mem _)
end Go.Proofs.YtlnhdpjnlffaoaaGreatDoor
namespace Go.Proofs.YtlnhdpjnlffaoaaGreatDoor
open Go Go.Sx
set_option maxRecDepth 100000
set_option maxHeartbeats 4000000
set_option linter.unusedVariables false
set_option linter.unusedSimpArgs false
def u_ (l:List Cp) (p o:Int) (r:Rt):List Cp:=l ++ [⟨((l.length+1:Nat):Int),p,o,r⟩]
theorem iy (l:List Cp) (p o:Int) (r:Rt):(u_ l p o r).length=l.length+1:=by simp[u_]
theorem ry (l:List Cp) (p o:Int) (r:Rt):(u_ l p o r).flatMap bx=l.flatMap bx++bx ⟨((l.length+1:Nat):Int),p,o,r⟩:=by simp[u_]
section
variable {w0:World} {R:Nat→Nat→Prop} {av:Nat→Prop}
theorem BX {D:World→Prop} {x0 x1 x2:Nat×Nat} {c0 c2:List Value} {r1:List (Nat×Row)} {a:Option Addr} {cap:Nat} {C:List Value} (l:List Cp) (hO:Sx.cZ 6 l.length a cap C (l.flatMap bx)) (hl:l.length≤1000) (p o:Int) (r:Rt) {K:KV}
 (h : ∀ a' cap' C',Sx.cZ 6 (l.length+1) a' cap' C' ((u_ l p o r).flatMap bx)→K (.int .i64 ((l.length+1:Nat):Int)) [x0,x1,x2] [c0,[.int .i64 ((l.length+2:Nat):Int),.slice a' (l.length+1) cap'],c2] ⟨D,r1++bo a' C' ++ []⟩) :
 aw Tryz.prog w0 R av 77 [.pointer (some ⟨x1.1,x1.2+0,none⟩),.int .i64 p,.int .i64 o,.agg ⟨s5 r⟩] [x0,x1,x2] [c0,[.int .i64 ((l.length+1:Nat):Int),.slice a l.length cap],c2] ⟨D,r1++bo a C ++ []⟩ K:=by
 obtain⟨y0,z0⟩:=x0;obtain⟨y1,z1⟩:=x1;obtain⟨y2,z2⟩:=x2
 have hw:IntKind.i64.wrap (((l.length+1:Nat):Int)+1)=((l.length+2:Nat):Int):=by rw[wrap_i64 (by omega)];omega
 refine aw.wN ae Tryz.func77 rfl (by decide) (n:=Tryz.f77.ntmps - 4) [.p 1 0,.v _,.v _,.v _] rfl (by exact⟨⟨rfl,by simp⟩,rfl,rfl,rfl,trivial⟩) ?_
 conv=>whnf
 repeat (refine aa.of ?_;conv=>whnf)
 intro b7
 conv=>whnf
 repeat (refine aa.of ?_;conv=>whnf)
 refine az.draw ae mixed rfl rfl ?_
 conv=>whnf
 repeat' (first
  | (refine dv.of ?_;conv=>whnf)
  | (refine ar.build ae rfl rfl rfl [.agg ⟨bx ⟨((l.length+1:Nat):Int),p,o,r⟩⟩] rfl rfl (by simp[Value.cells,bx]) (by decide) fun b5=>?_;conv=>whnf)
  | (refine ar.bZ (F':=⟨D,r1++bo a C ++ [(b5,Row.c (bx ⟨((l.length+1:Nat):Int),p,o,r⟩))]⟩) (ax.of_le ⟨by simp[Value.cells],fun w hw=>hw⟩) ?_;refine ar.fk ae rfl rfl rfl rfl rfl rfl (M:=bx ⟨((l.length+1:Nat):Int),p,o,r⟩) hO (aK.row (by simp)) rfl (List.all_eq_true.1 (by rfl)) (by omega) (by show(l.length+l.length/4+600)*48≤2 ^ 48;omega) fun a' c' C' hO'=>?_;conv=>whnf))
 rw[← ry] at hO'
 rw[hw]
 exact⟨⟨[(b7,0)],[c0,[.int .i64 ((l.length+2:Nat):Int),.slice a' (l.length+1) c'],c2],[s5 r],⟨D,r1++bo a' C' ++ []⟩,rfl,rfl,rfl,ax.of_le ⟨by simp,fun w hw=>hw⟩,h _ _ _ hO'⟩⟩
theorem Dr {D:World→Prop} {x0 x1 x2 x3:Nat×Nat} {c1 c2 c3:List Value} {r1:List (Nat×Row)} {a:Option Addr} {cap:Nat} {C:List Value} (l:List Cp) (hO:Sx.cZ 6 l.length a cap C (l.flatMap bx)) (hl:l.length≤1000) (p o:Int) (r:Rt) {K:KV}
 (h : ∀ a' cap' C',Sx.cZ 6 (l.length+1) a' cap' C' ((u_ l p o r).flatMap bx)→K (.int .i64 ((l.length+1:Nat):Int)) [x0,x1,x2,x3] [[.int .i64 ((l.length+2:Nat):Int),.slice a' (l.length+1) cap'],c1,c2,c3] ⟨D,r1++bo a' C' ++ []⟩) :
 aw Tryz.prog w0 R av 77 [.pointer (some ⟨x0.1,x0.2+0,none⟩),.int .i64 p,.int .i64 o,.agg ⟨s5 r⟩] [x0,x1,x2,x3] [[.int .i64 ((l.length+1:Nat):Int),.slice a l.length cap],c1,c2,c3] ⟨D,r1++bo a C ++ []⟩ K:=by
 obtain⟨y0,z0⟩:=x0;obtain⟨y1,z1⟩:=x1;obtain⟨y2,z2⟩:=x2;obtain⟨y3,z3⟩:=x3
 have hw:IntKind.i64.wrap (((l.length+1:Nat):Int)+1)=((l.length+2:Nat):Int):=by rw[wrap_i64 (by omega)];omega
 refine aw.wN ae Tryz.func77 rfl (by decide) (n:=Tryz.f77.ntmps - 4) [.p 0 0,.v _,.v _,.v _] rfl (by exact⟨⟨rfl,by simp⟩,rfl,rfl,rfl,trivial⟩) ?_
 conv=>whnf
 repeat (refine aa.of ?_;conv=>whnf)
 intro b7
 conv=>whnf
 repeat (refine aa.of ?_;conv=>whnf)
 refine az.draw ae mixed rfl rfl ?_
 conv=>whnf
 repeat' (first
  | (refine dv.of ?_;conv=>whnf)
  | (refine ar.build ae rfl rfl rfl [.agg ⟨bx ⟨((l.length+1:Nat):Int),p,o,r⟩⟩] rfl rfl (by simp[Value.cells,bx]) (by decide) fun b5=>?_;conv=>whnf)
  | (refine ar.bZ (F':=⟨D,r1++bo a C ++ [(b5,Row.c (bx ⟨((l.length+1:Nat):Int),p,o,r⟩))]⟩) (ax.of_le ⟨by simp[Value.cells],fun w hw=>hw⟩) ?_;refine ar.fk ae rfl rfl rfl rfl rfl rfl (M:=bx ⟨((l.length+1:Nat):Int),p,o,r⟩) hO (aK.row (by simp)) rfl (List.all_eq_true.1 (by rfl)) (by omega) (by show(l.length+l.length/4+600)*48≤2 ^ 48;omega) fun a' c' C' hO'=>?_;conv=>whnf))
 rw[← ry] at hO'
 rw[hw]
 exact⟨⟨[(b7,0)],[[.int .i64 ((l.length+2:Nat):Int),.slice a' (l.length+1) c'],c1,c2,c3],[s5 r],⟨D,r1++bo a' C' ++ []⟩,rfl,rfl,rfl,ax.of_le ⟨by simp,fun w hw=>hw⟩,h _ _ _ hO'⟩⟩
end
def k8 (r:Rt) (root:Int) (l:List Cp) (hs:List Int):List Cp:=hs.foldl (fun s h=>u_ s root h r) l
def z6 (x:Ln):Rt:=⟨x.a,x.b,x.c⟩
def tN (l:List Cp) (x:Ln):List Cp:=k8 (z6 x) ((l.length+1:Nat):Int) (u_ l 0 0 (z6 x)) x.l
def fE (L:List Ln):List Cp:=L.foldl tN []
theorem vM (r:Rt) (root:Int) (l:List Cp) (hs:List Int) {j:Nat} (hj:j<hs.length):k8 r root l (hs.take (j+1))=u_ (k8 r root l (hs.take j)) root hs[j] r:=by
 unfold k8
 rw[List.take_succ_eq_append_getElem hj,List.foldl_append]
 rfl
theorem rq (r:Rt) (root:Int) : ∀ (hs:List Int) (l:List Cp),(k8 r root l hs).length=l.length+hs.length
 | [],l=>rfl
 | h::hs,l=>by
  show(k8 r root (u_ l root h r) hs).length=_
  rw[rq r root hs,iy,List.length_cons]
  omega
theorem vp (L:List Ln) {i:Nat} (hi:i<L.length):fE (L.take (i+1))=tN (fE (L.take i)) L[i]:=by
 unfold fE
 rw[List.take_succ_eq_append_getElem hi,List.foldl_append]
 rfl
theorem vu : ∀ i,i≤63→(fE (bu.take i)).length≤200:=by
 have h:(List.range 64).all (fun i=>decide ((fE (bu.take i)).length≤200))=true:=by decide +kernel
 intro i hi
 exact of_decide_eq_true (List.all_eq_true.1 h i (List.mem_range.2 (by omega)))
theorem xO : ∀ i,i<63→(bu[i]!).l.length≤20:=by
 have h:(List.range 63).all (fun i=>decide ((bu[i]!).l.length≤20))=true:=by decide +kernel
 intro i hi
 exact of_decide_eq_true (List.all_eq_true.1 h i (List.mem_range.2 hi))
end Go.Proofs.YtlnhdpjnlffaoaaGreatDoor
namespace Go.Proofs.YtlnhdpjnlffaoaaGreatDoor
open Go Go.Sx
set_option maxRecDepth 100000
set_option maxHeartbeats 4000000
set_option linter.unusedVariables false
set_option linter.unusedSimpArgs false
def tX (L:List Ln) (hd:Nat→Hd):List Value:=(List.range L.length).flatMap fun j=>yf L[j]! (hd j)
theorem zp (L:List Ln) (hd:Nat→Hd) {i:Nat} (hi:i<L.length):((tX L hd).drop (i*4)).take 4=yf L[i] (hd i):=by
 unfold tX
 rw[a8 (cf:=fun j=>yf L[j]! (hd j)) (z:=4) (fun _=>rfl) (l:=List.range L.length) (by simpa using hi)]
 simp[hi]
structure E0 (L:List Ln) (i j:Nat) (l:List Cp):Prop where
 len:l.length≤300
 eq:l=k8 (z6 L[i]!) (((fE (L.take i)).length+1:Nat):Int) (u_ (fE (L.take i)) 0 0 (z6 L[i]!)) (L[i]!.l.take j)
theorem xY (entT:List Cp) (hE : ∀ h:Hd,h.Ok (fE bu).length→af Tryz.prog 78 [.agg ⟨[.int .i64 (((fE bu).length+1:Nat):Int),h.v (fE bu).length]⟩,.int .i64 16] (fun w=>ai w h.a ((fE bu).flatMap bx))
 (fun v F=>∃ k:Hd,k.Ok entT.length∧v = .tuple ⟨[.agg ⟨[.int .i64 ((entT.length+1:Nat):Int),k.v entT.length]⟩,.int .i64 0]⟩∧F=⟨fun w=>ai w k.a (entT.flatMap bx),[]⟩)) :
 af Tryz.prog 28 [] (fun _=>True) (fun v F=>∃ h:Hd,h.Ok entT.length∧v = .agg ⟨[.int .i64 ((entT.length+1:Nat):Int),h.v entT.length]⟩∧F=⟨fun w=>ai w h.a (entT.flatMap bx),[]⟩):=by
 have h1:=wg
 have hsm:=vu
 have hho:=xO
 have hL63:bu.length=63:=by decide
 obtain⟨L,hL⟩ : ∃ L,bu=L:=⟨_,rfl⟩
 rw[hL] at h1 hsm hho hL63
 have hEL:=hE
 rw[hL] at hEL
 clear hE hL
 obtain⟨n,hn⟩ : ∃ n,L.length=n:=⟨_,rfl⟩
 rw[hn] at h1 hL63
 refine af.aG ae Tryz.func28 rfl (by decide) (n:=Tryz.f28.ntmps - 0) rfl rfl fun w0 av=>?_
 refine nH ?_
 refine rh (ti:=(Sx.look aY 84).get rfl) rfl rfl ?_
 conv=>whnf
 repeat (refine aa.of ?_;conv=>whnf)
 intro b0
 conv=>whnf
 repeat (refine aa.of ?_;conv=>whnf)
 intro b1
 conv=>whnf
 repeat (refine aa.of ?_;conv=>whnf)
 refine aw.pure h1 (fun w hw=>trivial) (fun v D hv=>?_)
 obtain⟨aL,cL,hd,hcL,hhd,rfl,rfl⟩:=hv
 conv=>whnf
 repeat (refine aa.of ?_;conv=>whnf)
 refine az.loop ae (ι:=Nat×List Cp×Option Addr×Nat×List Value) ([3,4,6,10]++List.range' 11 20) (fun x=>x.1≤n∧x.2.1=fE (L.take x.1)∧Sx.cZ 6 x.2.1.length x.2.2.1 x.2.2.2.1 x.2.2.2.2 (x.2.1.flatMap bx))
  (fun x=>[(10,.v (.int .i64 (x.1:Int)))]) (fun x=>[[.int .i64 0,.slice none 0 0],[.int .i64 ((x.2.1.length+1:Nat):Int),.slice x.2.2.1 x.2.1.length x.2.2.2.1]]) (fun x=>⟨fun w=>ai w (some aL) (tX L hd)∧∀ j,j<n→ai w (hd j).a (L[j]!.l.map bt),[]++bo x.2.2.1 x.2.2.2.2 ++ []⟩)
  (fun x=>n - x.1) (0,[],none,0,[]) ⟨Nat.zero_le _,by simp[fE],Sx.cZ.nil 6⟩ ?_ rfl (ax.of_le ⟨by simp[bo,Fx.and],fun w hw=>?_⟩) fun x hx=>?_
 · conv=>whnf
   repeat (first | exact au.nil | refine au.any ?_ | refine au.cons ?_)
 · obtain⟨-,hw1,hw2⟩:=hw
   exact⟨by unfold tX;rw[hn];exact hw1,hw2⟩
 obtain⟨i,l,a,cap,C⟩:=x
 obtain⟨hi,hl,hO⟩:=hx
 dsimp only at hi hl hO ⊢
 conv=>whnf
 repeat (refine aa.of ?_;conv=>whnf)
 refine bF.split (fun hlt=>?_) (fun hlt=>?_)
 · have hlt':i<n:=by
    simp[ao] at hlt
    omega
   conv=>whnf
   repeat (refine aa.of ?_;conv=>whnf)
   refine ar.aj (ak.index ae rfl rfl rfl (by omega) (by omega) (fun h=>by cases h) fun ad had=>?_)
   conv=>whnf
   repeat (refine aa.of ?_;conv=>whnf)
   refine ar.aj (ak.aQ ae rfl rfl (ad:=ad) (k:=i*4) (L:=tX L hd) (m:=yf L[i] (hd i)) (.fact fun w hw=>had ▸ hw.1) (by simp) (zp L hd (by omega)) rfl ?_)
   conv=>whnf
   repeat (refine aa.of ?_;conv=>whnf)
   intro b3
   have hbang:L[i]! = L[i]:=by simp[hn,hlt']
   have hls:l.length≤200:=by rw[hl];exact hsm i (by omega)
   have hlo:=hho i (by omega)
   have hhi:=hhd i hlt'
   rw[hbang] at hlo hhi
   obtain⟨x,hx⟩ : ∃ x,L[i]=x:=⟨_,rfl⟩
   obtain⟨hx',hhx⟩ : ∃ h,hd i=h:=⟨_,rfl⟩
   rw[hx] at hlo hhi
   rw[hhx] at hhi
   rw[hx,hhx]
   conv=>whnf
   repeat (refine aa.of ?_;conv=>whnf)
   refine aw.bZ (F':=⟨fun w=>ai w (some aL) (tX L hd)∧∀ j,j<n→ai w (hd j).a (L[j]!.l.map bt),[]++bo a C ++ []⟩) (ax.refl _) ?_
   refine BX (x0:=(b0,0)) (x1:=(b1,0)) (x2:=(b3,0)) (c0:=[.int .i64 0,.slice none 0 0]) (c2:=yf x hx') (r1:=[]) l hO (by omega) 0 0 (z6 x) fun a1 cap1 C1 hO1=>?_
   conv=>whnf
   repeat (refine aa.of ?_;conv=>whnf)
   obtain⟨l1,hl1⟩ : ∃ l1,l1=u_ l 0 0 (z6 x):=⟨_,rfl⟩
   have hl1n:l1.length=l.length+1:=by rw[hl1,iy]
   rw[← hl1] at hO1
   have hrow : ∀ w,(ai w (some aL) (tX L hd)∧∀ j,j<n→ai w (hd j).a (L[j]!.l.map bt))→ai w hx'.a (x.l.map bt):=fun w hw=>by
    have:=hw.2 i hlt'
    rwa [hbang,hx,hhx] at this
   refine az.loop ae (ι:=Nat×List Cp×Option Addr×Nat×List Value) ([6,20]++List.range' 21 9) (fun y=>y.1≤x.l.length∧y.2.1=k8 (z6 x) ((l.length+1:Nat):Int) l1 (x.l.take y.1)∧Sx.cZ 6 y.2.1.length y.2.2.1 y.2.2.2.1 y.2.2.2.2 (y.2.1.flatMap bx))
    (fun y=>[(20,.v (.int .i64 (y.1:Int)))]) (fun y=>[[.int .i64 0,.slice none 0 0],[.int .i64 ((y.2.1.length+1:Nat):Int),.slice y.2.2.1 y.2.1.length y.2.2.2.1],yf x hx']) (fun y=>⟨fun w=>ai w (some aL) (tX L hd)∧∀ j,j<n→ai w (hd j).a (L[j]!.l.map bt),[]++bo y.2.2.1 y.2.2.2.2 ++ []⟩)
    (fun y=>x.l.length - y.1) (0,l1,a1,cap1,C1) ⟨Nat.zero_le _,by simp[k8],by dsimp only;rw[hl1n];exact hO1⟩ ?_ (by dsimp only;rw[hl1n]) (ax.refl _) fun y hy=>?_
   · conv=>whnf
     repeat (first | exact au.nil | refine au.any ?_ | refine au.cons ?_)
   obtain⟨j,l2,a2,cap2,C2⟩:=y
   obtain⟨hj,hl2,hO2⟩:=hy
   dsimp only at hj hl2 hO2 ⊢
   have hl2n:l2.length=l.length+1+j:=by
    rw[hl2,rq,hl1n,List.length_take]
    omega
   conv=>whnf
   repeat (refine aa.of ?_;conv=>whnf)
   refine bF.split (fun hjt=>?_) (fun hjt=>?_)
   · have hjt':j<x.l.length:=by
      simp[ao] at hjt
      omega
     conv=>whnf
     repeat (refine aa.of ?_;conv=>whnf)
     refine ar.aj (ak.index ae rfl rfl rfl (by omega) (by omega) hhi.nil fun ad had=>?_)
     conv=>whnf
     repeat (refine aa.of ?_;conv=>whnf)
     refine ar.aj (ak.load ae rfl rfl (ad:=ad) (k:=j) (L:=x.l.map bt) (v:=.int .i64 x.l[j]) (.fact fun w hw=>had ▸ hrow w hw) (by simp) (by rw[List.getElem?_map,List.getElem?_eq_getElem hjt'];rfl) ?_)
     conv=>whnf
     repeat (refine aa.of ?_;conv=>whnf)
     refine BX (x0:=(b0,0)) (x1:=(b1,0)) (x2:=(b3,0)) (c0:=[.int .i64 0,.slice none 0 0]) (c2:=yf x hx') (r1:=[]) l2 hO2 (by omega) ((l.length+1:Nat):Int) x.l[j] (z6 x) fun a3 cap3 C3 hO3=>?_
     conv=>whnf
     repeat (refine aa.of ?_;conv=>whnf)
     refine⟨(j+1,u_ l2 ((l.length+1:Nat):Int) x.l[j] (z6 x),a3,cap3,C3),⟨⟨hjt',by dsimp only;rw[vM _ _ _ _ hjt',← hl2],by dsimp only;rw[iy];exact hO3⟩,by dsimp only;omega⟩,?_,?_,ax.refl _⟩
     · conv=>whnf
       refine⟨?_,rfl⟩
       repeat (first | exact au.nil | refine au.any ?_ | refine au.cons ?_ | refine au.eq (by rw[wrap_i64 (by omega)];rfl) ?_)
     · dsimp only
       rw[iy]
       conv=>whnf
       exact⟨⟨rfl,rfl⟩,⟨rfl,rfl⟩,⟨rfl,rfl⟩,trivial⟩
   · have hje:j=x.l.length:=by
      simp[ao] at hjt
      omega
     subst hje
     rw[List.take_length] at hl2
     have hnext:l2=fE (L.take (i+1)):=by
      rw[vp L (by omega),hx,← hl,hl2,hl1]
      rfl
     conv=>whnf
     repeat (refine aa.of ?_;conv=>whnf)
     refine⟨(i+1,l2,a2,cap2,C2),⟨⟨hlt',hnext,hO2⟩,by dsimp only;omega⟩,?_,?_,ax.refl _⟩
     · conv=>whnf
       refine⟨?_,rfl⟩
       repeat (first | exact au.nil | refine au.any ?_ | refine au.cons ?_ | refine au.eq (by rw[wrap_i64 (by omega)];rfl) ?_)
     · conv=>whnf
       exact⟨⟨rfl,rfl⟩,⟨rfl,rfl⟩,trivial⟩
 · have hie:i=n:=by
    simp[ao] at hlt
    omega
   subst hie
   rw[← hn,List.take_length] at hl
   subst hl
   conv=>whnf
   repeat (refine aa.of ?_;conv=>whnf)
   refine aw.bZ (F':=⟨fun w=>ai w a ((fE L).flatMap bx),[]⟩) ?_ ?_
   · exact ax.trans (hO.share (r1:=[]) (r2:=[])) (ax.imp fun w hw=>hw.2)
   conv=>whnf
   repeat (refine aa.of ?_;conv=>whnf)
   refine aw.pure (hEL ⟨a,cap⟩ ⟨hO.cJ,hO.fit⟩) (fun w hw=>hw) (fun v D hv=>?_)
   obtain⟨k,hk,rfl,rfl⟩:=hv
   conv=>whnf
   repeat (refine aa.of ?_;conv=>whnf)
   exact⟨⟨fun w=>ai w k.a (entT.flatMap bx),[]⟩,ax.of_le ⟨by simp[Fx.and],fun w hw=>hw.2⟩,k,hk,rfl,rfl⟩
def isRoot (c:Cp):Bool:=aR c.parent 0&&aR c.r.ty 1&&aR c.r.code 1
def cA (l:List Cp):List Cp:=l.filter isRoot
def jb (l:List Cp) (rs:List Cp):List Cp:=rs.foldl (fun s c=>u_ s c.id 16 c.r) l
theorem xX (l:List Cp) (rs:List Cp) {j:Nat} (hj:j<rs.length):jb l (rs.take (j+1))=u_ (jb l (rs.take j)) rs[j].id 16 rs[j].r:=by
 unfold jb
 rw[List.take_succ_eq_append_getElem hj,List.foldl_append]
 rfl
theorem oQ : ∀ (rs l:List Cp),(jb l rs).length=l.length+rs.length
 | [],l=>rfl
 | c::rs,l=>by
  show(jb (u_ l c.id 16 c.r) rs).length=_
  rw[oQ rs,iy,List.length_cons]
  omega
theorem vz (l:List Cp) {i:Nat} (hi:i<l.length):cA (l.take (i+1))=cA (l.take i)++(if isRoot l[i] then [l[i]] else []):=by
 unfold cA
 rw[List.take_succ_eq_append_getElem hi,List.filter_append]
 congr 1
 cases h:isRoot l[i]<;>simp[h]
theorem uh (x:Cp) (b2 b3:Nat) (nx:Int) (l:List Cp) (h:Hd) (hh:h.Ok l.length) (hl:l.length≤140737488355328):af Tryz.prog 143 [.agg ⟨bx x⟩,.pointer (some ⟨b2,0,none⟩),.pointer (some ⟨b3,0,none⟩)]
 (fun w=>(ai w (some ⟨b2,0,none⟩) [.int .i64 nx,h.v l.length]∧ai w (some ⟨b3,0,none⟩) [.int .i64 16])∧ai w h.a (l.flatMap bx)) (fun v F=>v = .bool (dj l 16 x.r)):=by
 have h1:=k_ nx l h hh hl 16 x.r
 generalize dj l 16 x.r=q1 at *
 refine af.aG ae Tryz.func143 rfl (by decide) (n:=Tryz.f143.ntmps - 3) rfl rfl fun w0 av=>?_
 conv=>whnf
 repeat (refine aa.of ?_;conv=>whnf)
 intro b4
 conv=>whnf
 repeat (refine aa.of ?_;conv=>whnf)
 refine ar.aj (ak.aQ ae rfl rfl (ad:=⟨b2,0,none⟩) (k:=0) (L:=[.int .i64 nx,h.v l.length]) (m:=[.int .i64 nx,h.v l.length]) (.fact fun w hw=>hw.1.1) rfl rfl rfl ?_)
 conv=>whnf
 repeat (refine aa.of ?_;conv=>whnf)
 refine ar.aj (ak.aH ae rfl rfl (ad:=⟨b3,0,none⟩) (k:=0) (L:=[.int .i64 16]) (v:=.int .i64 16) (.fact fun w hw=>hw.1.2) (fun _=>rfl) rfl ?_)
 conv=>whnf
 repeat (refine aa.of ?_;conv=>whnf)
 refine aw.val h1 (fun w hw=>hw.2) (fun v D hv=>?_)
 subst hv
 conv=>whnf
 repeat (refine aa.of ?_;conv=>whnf)
 exact⟨_,ax.refl _,rfl⟩
theorem qo (a:Addr) (n c:Nat) (M:List Value) (hM:M.length=n*6) (hn0:0<n) (hn:n≤1000000):af Tryz.prog 34 [.slice (some a) n c] (fun w=>ai w (some a) M)
 (fun v F=>∃ b cap C,Sx.cZ 6 n (some ⟨b,0,none⟩) cap C M∧v = .slice (some ⟨b,0,none⟩) n cap∧F=⟨fun _=>True,[(b,Row.c C)]⟩):=by
 refine af.aG ae Tryz.func34 rfl (by decide) (n:=Tryz.f34.ntmps - 1) rfl rfl fun w0 av=>?_
 conv=>whnf
 repeat (refine aa.of ?_;conv=>whnf)
 refine ar.aj (ak.eP ae (t:=82) rfl rfl ?_)
 conv=>whnf
 repeat (refine aa.of ?_;conv=>whnf)
 refine ar.build ae (t:=82) rfl rfl rfl [] rfl rfl (by simp) (by decide) fun b0=>?_
 conv=>whnf
 repeat (refine aa.of ?_;conv=>whnf)
 refine ar.bZ (F':=⟨fun w=>ai w (some a) M,[]⟩) (ax.of_le ⟨by simp,fun w hw=>hw⟩) ?_
 refine ar.lG ae rfl rfl rfl rfl rfl rfl (L:=[]) (M:=M) (fun w _=>ai.w_ _) (by simp) (.fact fun w hw=>hw) hM (by omega) (by omega) (by show(2*(0+n)+1000)*48≤2 ^ 48;omega) fun b cap C hO=>?_
 conv=>whnf
 repeat (refine aa.of ?_;conv=>whnf)
 rw[Nat.zero_add,List.nil_append] at hO
 rw[Nat.zero_add]
 exact⟨⟨fun _=>True,[(b,Row.c C)]⟩,ax.of_le ⟨by simp,fun w hw=>trivial⟩,b,cap,C,hO,rfl,rfl⟩
theorem vj (l:List Cp) (hl:l.length≤300) (hv:(allI l.length (dR ((l.length+1:Nat):Int) l)&&decide (l.length≤400∧1≤((l.length+1:Nat):Int)∧((l.length+1:Nat):Int)≤1099511627776))=true)
 (hr0:0<(cA l).length) (hr:(cA l).length≤50) (hno:((cA l).any fun c=>dj l 16 c.r)=false) (h:Hd) (hh:h.Ok l.length) (hh0:0<l.length) :
 af Tryz.prog 78 [.agg ⟨[.int .i64 ((l.length+1:Nat):Int),h.v l.length]⟩,.int .i64 16] (fun w=>ai w h.a (l.flatMap bx))
  (fun v F=>∃ k:Hd,k.Ok (jb l (cA l)).length∧v = .tuple ⟨[.agg ⟨[.int .i64 (((jb l (cA l)).length+1:Nat):Int),k.v (jb l (cA l)).length]⟩,.int .i64 0]⟩∧F=⟨fun w=>ai w k.a ((jb l (cA l)).flatMap bx),[]⟩):=by
 have h1:=js ((l.length+1:Nat):Int) l h hh (by omega)
 rw[hv] at h1
 obtain⟨ha,hc⟩:=h
 rcases ha with _ | ha
 · have:=hh.nil rfl
   omega
 have hhc:l.length≤hc:=hh.cap
 refine af.aG ae Tryz.func78 rfl (by decide) (n:=Tryz.f78.ntmps - 2) rfl rfl fun w0 av=>?_
 conv=>whnf
 repeat (refine aa.of ?_;conv=>whnf)
 intro b2
 conv=>whnf
 repeat (refine aa.of ?_;conv=>whnf)
 intro b3
 conv=>whnf
 repeat (refine aa.of ?_;conv=>whnf)
 intro b4
 conv=>whnf
 repeat (refine aa.of ?_;conv=>whnf)
 refine aw.val h1 (fun w hw=>hw) (fun v D hv=>?_)
 subst hv
 conv=>whnf
 repeat (refine aa.of ?_;conv=>whnf)
 refine bF.no (by simp[ao,aD]) ?_
 conv=>whnf
 repeat (refine aa.of ?_;conv=>whnf)
 refine az.loop ae (ι:=Nat×Option Addr×Nat×List Value) ([6,8,25]++List.range' 26 23) (fun x=>x.1≤l.length∧Sx.cZ 6 (cA (l.take x.1)).length x.2.1 x.2.2.1 x.2.2.2 ((cA (l.take x.1)).flatMap bx))
  (fun x=>[(25,.v (.int .i64 (x.1:Int))),(6,.v (.slice x.2.1 (cA (l.take x.1)).length x.2.2.1))]) (fun x=>[[.int .i64 ((l.length+1:Nat):Int),.slice (some ha) l.length hc],[.int .i64 16],[.int .i64 0,.slice none 0 0]]) (fun x=>⟨fun w=>ai w (some ha) (l.flatMap bx),[]++bo x.2.1 x.2.2.2 ++ []⟩)
  (fun x=>l.length - x.1) (0,none,0,[]) ⟨Nat.zero_le _,Sx.cZ.nil 6⟩ ?_ rfl (ax.refl _) fun x hx=>?_
 · conv=>whnf
   repeat (first | exact au.nil | refine au.any ?_ | refine au.cons ?_)
 obtain⟨i,a,cap,C⟩:=x
 obtain⟨hi,hO⟩:=hx
 dsimp only at hi hO ⊢
 conv=>whnf
 repeat (refine aa.of ?_;conv=>whnf)
 refine bF.split (fun hlt=>?_) (fun hlt=>?_)
 · have hlt':i<l.length:=by
    simp[ao] at hlt
    omega
   have hrn:=vz l hlt'
   have hrl:(cA (l.take i)).length≤300:=by
    have:=List.length_filter_le isRoot (l.take i)
    rw[List.length_take] at this
    unfold cA
    omega
   conv=>whnf
   repeat (refine aa.of ?_;conv=>whnf)
   refine ar.aj (ak.index ae rfl rfl rfl (by omega) (by omega) (fun h=>by cases h) fun ad had=>?_)
   conv=>whnf
   repeat (refine aa.of ?_;conv=>whnf)
   refine ar.aj (ak.aQ ae rfl rfl (ad:=ad) (k:=i*6) (L:=l.flatMap bx) (m:=bx l[i]) (.fact fun w hw=>had ▸ hw) (by simp) (by exact a8 (cf:=bx) (z:=6) (fun _=>rfl) hlt') rfl ?_)
   conv=>whnf
   repeat (refine aa.of ?_;conv=>whnf)
   intro b8
   obtain⟨x,hx⟩ : ∃ x,l[i]=x:=⟨_,rfl⟩
   rw[hx] at hrn ⊢
   conv=>whnf
   repeat (refine aa.of ?_;conv=>whnf)
   obtain⟨q,hq⟩ : ∃ q,isRoot x=q:=⟨_,rfl⟩
   have hq':(aR x.parent 0&&aR x.r.ty 1&&aR x.r.code 1)=q:=hq
   rw[hq']
   rw[hq] at hrn
   cases q
   · conv=>whnf
     repeat (refine aa.of ?_;conv=>whnf)
     refine⟨(i+1,a,cap,C),⟨⟨hlt',?_⟩,by dsimp only;omega⟩,?_,?_,ax.refl _⟩
     · dsimp only
       rw[hrn]
       simpa using hO
     · dsimp only
       rw[hrn]
       simp only[Bool.false_eq_true,if_false,List.append_nil]
       conv=>whnf
       refine⟨?_,rfl⟩
       repeat (first | exact au.nil | refine au.any ?_ | refine au.cons ?_ | refine au.eq (by rw[wrap_i64 (by omega)];rfl) ?_)
     · conv=>whnf
       exact⟨⟨rfl,rfl⟩,⟨rfl,rfl⟩,⟨rfl,rfl⟩,trivial⟩
   · conv=>whnf
     repeat (refine aa.of ?_;conv=>whnf)
     refine ar.build ae rfl rfl rfl [.agg ⟨bx x⟩] rfl rfl (by simp[Value.cells,bx]) (by decide) fun b5=>?_
     conv=>whnf
     repeat (refine aa.of ?_;conv=>whnf)
     refine ar.bZ (F':=⟨fun w=>ai w (some ha) (l.flatMap bx),[]++bo a C ++ [(b5,Row.c (bx x))]⟩) (ax.of_le ⟨by simp[Value.cells],fun w hw=>hw⟩) ?_
     refine ar.fk ae rfl rfl rfl rfl rfl rfl (M:=bx x) hO (aK.row (by simp)) rfl (List.all_eq_true.1 (by rfl)) (by omega) (by show((cA (l.take i)).length+(cA (l.take i)).length/4+600)*48≤2 ^ 48;omega) fun a' c' C' hO'=>?_
     conv=>whnf
     repeat (refine aa.of ?_;conv=>whnf)
     have hrn2:cA (l.take (i+1))=cA (l.take i) ++ [x]:=by rw[hrn];simp
     have hrn3:(cA (l.take (i+1))).length=(cA (l.take i)).length+1:=by rw[hrn2];simp
     refine⟨(i+1,a',c',C'),⟨⟨hlt',?_⟩,by dsimp only;omega⟩,?_,?_,ax.of_le ⟨by simp,fun w hw=>hw⟩⟩
     · dsimp only
       rw[hrn3,hrn2,List.flatMap_append]
       simpa using hO'
     · dsimp only
       rw[hrn3]
       conv=>whnf
       refine⟨?_,rfl⟩
       repeat (first | exact au.nil | refine au.any ?_ | refine au.cons ?_ | refine au.eq (by rw[wrap_i64 (by omega)];rfl) ?_)
     · conv=>whnf
       exact⟨⟨rfl,rfl⟩,⟨rfl,rfl⟩,⟨rfl,rfl⟩,trivial⟩
 · have hie:i=l.length:=by
    simp[ao] at hlt
    omega
   subst hie
   rw[List.take_length] at hO ⊢
   obtain⟨rs,hrs⟩ : ∃ rs,cA l=rs:=⟨_,rfl⟩
   rw[hrs] at hr0 hr hno hO ⊢
   have hch:=wJ bx (fun _=>rfl) 143 (fun w=>(ai w (some ⟨b2,0,none⟩) [.int .i64 ((l.length+1:Nat):Int),.slice (some ha) l.length hc]∧ai w (some ⟨b3,0,none⟩) [.int .i64 16])∧ai w (some ha) (l.flatMap bx)) (fun c=>dj l 16 c.r) (.pointer (some ⟨b2,0,none⟩)) (.pointer (some ⟨b3,0,none⟩)) rs ⟨a,cap⟩ ⟨hO.cJ,hO.fit⟩ (by omega) (fun e _=>uh e b2 b3 _ l ⟨some ha,hc⟩ hh (by omega))
   rw[hno] at hch
   conv=>whnf
   repeat (refine aa.of ?_;conv=>whnf)
   refine aw.bZ (F':=⟨fun w=>ai w (some ha) (l.flatMap bx)∧ai w a (rs.flatMap bx),[]⟩) ?_ ?_
   · exact ax.trans (hO.share (r1:=[]) (r2:=[])) (ax.imp fun w hw=>hw)
   refine aw.look hch ((Loc.row _ _).and (((Loc.row _ _).and (Loc.row _ _)).and (Loc.row _ _))) (fun w hst=>⟨hst.now.2,⟨aK.box 0 rfl (by simp) rfl w hst,aK.box 1 rfl (by simp) rfl w hst⟩,hst.now.1⟩) ?_
   conv=>whnf
   repeat (refine aa.of ?_;conv=>whnf)
   refine bF.no (by rw[wrap_i64 (by omega)];simp[aB];omega) ?_
   conv=>whnf
   repeat (refine aa.of ?_;conv=>whnf)
   refine bF.yes (by simp[aB];omega) ?_
   conv=>whnf
   repeat (refine aa.of ?_;conv=>whnf)
   refine bF.no (by rw[wrap_i64 (by omega)];simp[aB];omega) ?_
   conv=>whnf
   repeat (refine aa.of ?_;conv=>whnf)
   have hM:(l.flatMap bx).length=l.length*6:=by rw[gX (z:=6) (fun _=>rfl)]
   refine aw.pure (qo ha l.length hc (l.flatMap bx) hM hh0 (by omega)) (fun w hw=>hw.1) (fun v D hv=>?_)
   obtain⟨bk,capk,Ck,hOk,rfl,rfl⟩:=hv
   conv=>whnf
   repeat (refine aa.of ?_;conv=>whnf)
   refine az.loop ae (ι:=Nat×Option Addr×Nat×List Value) ([10,82]++List.range' 83 10) (fun x=>x.1≤rs.length∧Sx.cZ 6 (jb l (rs.take x.1)).length x.2.1 x.2.2.1 x.2.2.2 ((jb l (rs.take x.1)).flatMap bx))
    (fun x=>[(82,.v (.int .i64 (x.1:Int)))]) (fun x=>[[.int .i64 (((jb l (rs.take x.1)).length+1:Nat):Int),.slice x.2.1 (jb l (rs.take x.1)).length x.2.2.1],[.int .i64 16],[.int .i64 0,.slice none 0 0]]) (fun x=>⟨fun w=>ai w a (rs.flatMap bx),[]++bo x.2.1 x.2.2.2 ++ []⟩)
    (fun x=>rs.length - x.1) (0,some ⟨bk,0,none⟩,capk,Ck) ⟨Nat.zero_le _,hOk⟩ ?_ rfl (ax.of_le ⟨by simp[bo,Fx.and],fun w hw=>hw.1.2⟩) fun x hx=>?_
   · conv=>whnf
     repeat (first | exact au.nil | refine au.any ?_ | refine au.cons ?_)
   obtain⟨j,a2,cap2,C2⟩:=x
   obtain⟨hj,hO2⟩:=hx
   dsimp only at hj hO2 ⊢
   have hl2:(jb l (rs.take j)).length=l.length+j:=by
    rw[oQ,List.length_take]
    omega
   conv=>whnf
   repeat (refine aa.of ?_;conv=>whnf)
   refine bF.split (fun hjt=>?_) (fun hjt=>?_)
   · have hjt':j<rs.length:=by
      simp[ao] at hjt
      omega
     have hen:=xX l rs hjt'
     conv=>whnf
     repeat (refine aa.of ?_;conv=>whnf)
     refine ar.aj (ak.index ae rfl rfl rfl (by omega) (by omega) hO.cJ fun ad had=>?_)
     conv=>whnf
     repeat (refine aa.of ?_;conv=>whnf)
     refine ar.aj (ak.aQ ae rfl rfl (ad:=ad) (k:=j*6) (L:=rs.flatMap bx) (m:=bx rs[j]) (.fact fun w hw=>had ▸ hw) (by simp) (by exact a8 (cf:=bx) (z:=6) (fun _=>rfl) hjt') rfl ?_)
     conv=>whnf
     repeat (refine aa.of ?_;conv=>whnf)
     intro b10
     obtain⟨x,hx⟩ : ∃ x,rs[j]=x:=⟨_,rfl⟩
     rw[hx] at hen ⊢
     obtain⟨l2,hl2e⟩ : ∃ l2,jb l (rs.take j)=l2:=⟨_,rfl⟩
     rw[hl2e] at hen hO2 hl2 ⊢
     conv=>whnf
     repeat (refine aa.of ?_;conv=>whnf)
     refine Dr (x0:=(b2,0)) (x1:=(b3,0)) (x2:=(b4,0)) (x3:=(b10,0)) (c1:=[.int .i64 16]) (c2:=[.int .i64 0,.slice none 0 0]) (c3:=bx x) (r1:=[]) l2 hO2 (by omega) x.id 16 x.r fun a3 cap3 C3 hO3=>?_
     conv=>whnf
     repeat (refine aa.of ?_;conv=>whnf)
     refine⟨(j+1,a3,cap3,C3),⟨⟨hjt',?_⟩,by dsimp only;omega⟩,?_,?_,ax.refl _⟩
     · dsimp only
       rw[hen,iy]
       exact hO3
     · conv=>whnf
       refine⟨?_,rfl⟩
       repeat (first | exact au.nil | refine au.any ?_ | refine au.cons ?_ | refine au.eq (by rw[wrap_i64 (by omega)];rfl) ?_)
     · dsimp only
       rw[hen,iy]
       conv=>whnf
       exact⟨⟨rfl,rfl⟩,⟨rfl,rfl⟩,⟨rfl,rfl⟩,trivial⟩
   · have hje:j=rs.length:=by
      simp[ao] at hjt
      omega
     subst hje
     rw[List.take_length] at hO2 ⊢
     conv=>whnf
     repeat (refine aa.of ?_;conv=>whnf)
     refine⟨⟨fun w=>ai w a2 ((jb l rs).flatMap bx),[]⟩,ax.trans (hO2.share (r1:=[]) (r2:=[])) (ax.imp fun w hw=>hw.2),⟨a2,cap2⟩,⟨hO2.cJ,hO2.fit⟩,rfl,rfl⟩
def ij:List Cp:=fE bu
def eR:List Cp:=jb ij (cA ij)
theorem lB:ij.length=163:=by decide +kernel
theorem j6:(cA ij).length=4:=by decide +kernel
theorem yT:(allI ij.length (dR ((ij.length+1:Nat):Int) ij)&&decide (ij.length≤400∧1≤((ij.length+1:Nat):Int)∧((ij.length+1:Nat):Int)≤1099511627776))=true:=by decide +kernel
theorem zf:((cA ij).any fun c=>dj ij 16 c.r)=false:=by decide +kernel
theorem qZ:eR.length=167:=by
 unfold eR
 rw[oQ,lB,j6]
theorem wj:af Tryz.prog 28 [] (fun _=>True) (fun v F=>∃ h:Hd,h.Ok eR.length∧v = .agg ⟨[.int .i64 ((eR.length+1:Nat):Int),h.v eR.length]⟩∧F=⟨fun w=>ai w h.a (eR.flatMap bx),[]⟩):=
 xY eR fun h hh=>vj ij (by rw[lB];decide) yT (by rw[j6];decide) (by rw[j6];decide) zf h hh (by rw[lB];decide)
theorem fU (x:lZ):af Tryz.prog 46 [.agg ⟨cE x⟩] (fun _=>True) (fun v F=>∃ q,v = .bool q):=by
 refine af.aG ae Tryz.func46 rfl (by decide) (n:=Tryz.f46.ntmps - 1) rfl rfl fun w0 av=>?_
 conv=>whnf
 repeat (refine aa.of ?_;conv=>whnf)
 intro b1
 conv=>whnf
 repeat (refine aa.of ?_;conv=>whnf)
 repeat' (first
  | (refine cj.mk ?_ ?_;(focus (first | exact ax.refl _ | exact ax.left _ _ | exact ax.of_le ⟨List.sublist_append_left _ _,fun w h=>h⟩ | exact ax.of_le ⟨List.Sublist.refl _,fun w h=>h.1⟩));conv=>whnf))
 all_goals exact⟨_,ax.refl _,_,rfl⟩
theorem wC (l:List Bs) (h:Hd) (hh:h.Ok l.length) (hl:l.length≤140737488355328) :
 af Tryz.prog 17 [.agg ⟨[h.v l.length]⟩] (fun w=>ai w h.a (l.map du)) (fun v F=>∃ q,v = .bool q):=by
 refine af.aG ae Tryz.func17 rfl (by decide) (n:=Tryz.f17.ntmps - 1) rfl rfl fun w0 av=>?_
 conv=>whnf
 repeat (refine aa.of ?_;conv=>whnf)
 intro b1
 conv=>whnf
 repeat (refine aa.of ?_;conv=>whnf)
 refine az.loop ae (ι:=Nat) (List.range' 3 15) (fun x=>x≤l.length) (fun x=>[(3,.v (.int .i64 (x:Int)))]) (fun _=>[[h.v l.length]]) (fun _=>⟨fun w=>ai w h.a (l.map du),[]⟩) (fun x=>l.length - x) 0 (Nat.zero_le _) ?_ rfl (ax.refl _) fun i hi=>?_
 · conv=>whnf
   repeat (first | exact au.nil | refine au.any ?_ | refine au.cons ?_)
 conv=>whnf
 repeat (refine aa.of ?_;conv=>whnf)
 refine bF.split (fun hlt=>?_) (fun hlt=>?_)
 · have hlt':i<l.length:=by
    simp only[ao,decide_eq_true_eq] at hlt
    omega
   repeat' (first
    | (refine ar.aj (ak.index ae (t:=40) rfl rfl rfl (by omega) (by omega) hh.nil fun ad had=>?_);conv=>whnf)
    | (refine ar.aj (ak.aH ae rfl rfl (ad:=ad) (k:=i) (L:=l.map du) (v:=du l[i]) (.fact fun w hw=>had ▸ hw) (fun _=>by simp) (by rw[List.getElem?_map,List.getElem?_eq_getElem hlt'];rfl) ?_);conv=>whnf)
    | (split<;>conv=>whnf))
   all_goals first
    | (refine⟨_,ax.refl _,_,rfl⟩;done)
    | (
     refine⟨i+1,⟨hlt',by dsimp only;omega⟩,?_,?_,ax.refl _⟩;(conv=>whnf);refine⟨?_,rfl⟩;repeat (first | exact au.nil | refine au.any ?_ | refine au.cons ?_ | refine au.eq (by rw[wrap_i64 (by omega)];rfl) ?_)
     (conv=>whnf);exact⟨⟨rfl,rfl⟩,trivial⟩)
 · conv=>whnf
   repeat (refine aa.of ?_;conv=>whnf)
   exact⟨_,ax.refl _,_,rfl⟩
theorem vk (l:List Bs) (h:Hd) (hh:h.Ok l.length) (hl:l.length≤140737488355328) (x:lZ) :
 af Tryz.prog 18 [.agg ⟨h.v l.length::cE x⟩] (fun w=>ai w h.a (l.map du)) (fun v F=>∃ q,v = .bool q):=by
 refine af.aG ae Tryz.func18 rfl (by decide) (n:=Tryz.f18.ntmps - 1) rfl rfl fun w0 av=>?_
 conv=>whnf
 repeat (refine aa.of ?_;conv=>whnf)
 intro b1
 conv=>whnf
 repeat (refine aa.of ?_;conv=>whnf)
 refine az.loop ae (ι:=Nat) (List.range' 3 15) (fun x=>x≤l.length) (fun x=>[(3,.v (.int .i64 (x:Int)))]) (fun _=>[h.v l.length::cE x]) (fun _=>⟨fun w=>ai w h.a (l.map du),[]⟩) (fun x=>l.length - x) 0 (Nat.zero_le _) ?_ rfl (ax.refl _) fun i hi=>?_
 · conv=>whnf
   repeat (first | exact au.nil | refine au.any ?_ | refine au.cons ?_)
 conv=>whnf
 repeat (refine aa.of ?_;conv=>whnf)
 refine bF.split (fun hlt=>?_) (fun hlt=>?_)
 · have hlt':i<l.length:=by
    simp only[ao,decide_eq_true_eq] at hlt
    omega
   repeat' (first
    | (refine ar.aj (ak.index ae (t:=40) rfl rfl rfl (by omega) (by omega) hh.nil fun ad had=>?_);conv=>whnf)
    | (refine ar.aj (ak.aH ae rfl rfl (ad:=ad) (k:=i) (L:=l.map du) (v:=du l[i]) (.fact fun w hw=>had ▸ hw) (fun _=>by simp) (by rw[List.getElem?_map,List.getElem?_eq_getElem hlt'];rfl) ?_);conv=>whnf)
    | (split<;>conv=>whnf))
   all_goals first
    | (refine⟨_,ax.refl _,_,rfl⟩;done)
    | (
     refine⟨i+1,⟨hlt',by dsimp only;omega⟩,?_,?_,ax.refl _⟩;(conv=>whnf);refine⟨?_,rfl⟩;repeat (first | exact au.nil | refine au.any ?_ | refine au.cons ?_ | refine au.eq (by rw[wrap_i64 (by omega)];rfl) ?_)
     (conv=>whnf);exact⟨⟨rfl,rfl⟩,trivial⟩)
 · have h1:=fU x
   conv=>whnf
   repeat (refine aa.of ?_;conv=>whnf)
   repeat' (first
    | (refine aw.val h1 (fun w hw=>trivial) (fun v D hv=>?_);obtain⟨q,rfl⟩:=hv;conv=>whnf)
    | (split<;>conv=>whnf))
   all_goals exact⟨_,ax.refl _,_,rfl⟩
theorem vm (m0 m1 m2 m3 m4:Bool) (l:List qs) (h:Hd) (hh:h.Ok l.length) (hl:l.length≤140737488355328) :
 af Tryz.prog 21 [.agg ⟨[.bool m0,.bool m1,.bool m2,.bool m3,.bool m4,h.v l.length]⟩] (fun w=>ai w h.a (l.flatMap cK)) (fun v F=>∃ q,v = .bool q∧(q=true→l.length≤40)):=by
 refine af.aG ae Tryz.func21 rfl (by decide) (n:=Tryz.f21.ntmps - 1) rfl rfl fun w0 av=>?_
 conv=>whnf
 repeat (refine aa.of ?_;conv=>whnf)
 intro b1
 conv=>whnf
 repeat (refine aa.of ?_;conv=>whnf)
 refine az.loop ae (ι:=Nat) (List.range' 3 16) (fun x=>x≤l.length) (fun x=>[(3,.v (.int .i64 (x:Int)))]) (fun _=>[[.bool m0,.bool m1,.bool m2,.bool m3,.bool m4,h.v l.length]]) (fun _=>⟨fun w=>ai w h.a (l.flatMap cK),[]⟩) (fun x=>l.length - x) 0 (Nat.zero_le _) ?_ rfl (ax.refl _) fun i hi=>?_
 · conv=>whnf
   repeat (first | exact au.nil | refine au.any ?_ | refine au.cons ?_)
 conv=>whnf
 repeat (refine aa.of ?_;conv=>whnf)
 refine bF.split (fun hlt=>?_) (fun hlt=>?_)
 · have hlt':i<l.length:=by
    simp only[ao,decide_eq_true_eq] at hlt
    omega
   repeat' (first
    | (refine ar.aj (ak.index ae (t:=67) rfl rfl rfl (by omega) (by omega) hh.nil fun ad had=>?_);conv=>whnf)
    | (refine ar.aj (ak.aH ae rfl rfl (ad:=ad) (k:=i*4+3) (L:=l.flatMap cK) (v:=du l[i].data) (.fact fun w hw=>had ▸ hw) (fun hs=>by first | (rw[Addr.bD hs];simp)) (by rw[bY (z:=4) (fun _=>rfl) hlt' (by decide)];rfl) ?_);conv=>whnf)
    | (split<;>conv=>whnf))
   all_goals first
    | (refine⟨_,ax.refl _,_,rfl,fun h=>by cases h⟩;done)
    | (
     refine⟨i+1,⟨hlt',by dsimp only;omega⟩,?_,?_,ax.refl _⟩;(conv=>whnf);refine⟨?_,rfl⟩;repeat (first | exact au.nil | refine au.any ?_ | refine au.cons ?_ | refine au.eq (by rw[wrap_i64 (by omega)];rfl) ?_)
     (conv=>whnf);exact⟨⟨rfl,rfl⟩,trivial⟩)
 · conv=>whnf
   repeat (refine aa.of ?_;conv=>whnf)
   exact⟨_,ax.refl _,_,rfl,fun h=>by simp[aC] at h;omega⟩
theorem vF (q:List Mg) (hq:Hd) (hh:hq.Ok q.length) (hl:q.length≤140737488355328) (pv:Value) (hpv : ∃ a n c,pv = .slice a n c):af Tryz.prog 22 [.agg ⟨[hq.v q.length,pv]⟩] (fun w=>ai w hq.a (q.flatMap gv)) (fun v F=>∃ q,v = .bool q):=by
 obtain⟨a,np,c,rfl⟩:=hpv
 refine af.aG ae Tryz.func22 rfl (by decide) (n:=Tryz.f22.ntmps - 1) rfl rfl fun w0 av=>?_
 conv=>whnf
 repeat (refine aa.of ?_;conv=>whnf)
 intro b1
 conv=>whnf
 repeat (refine aa.of ?_;conv=>whnf)
 refine az.loop ae (ι:=Nat×Int) (List.range' 3 19) (fun x=>x.1≤q.length) (fun x=>[(3,.v (.int .i64 x.2)),(4,.v (.int .i64 (x.1:Int)))]) (fun _=>[[hq.v q.length,.slice a np c]]) (fun _=>⟨fun w=>ai w hq.a (q.flatMap gv),[]⟩) (fun x=>q.length - x.1) (0,0) (Nat.zero_le _) ?_ rfl (ax.refl _) fun x hi=>?_
 · conv=>whnf
   repeat (first | exact au.nil | refine au.any ?_ | refine au.cons ?_)
 obtain⟨i,n⟩:=x
 dsimp only at hi ⊢
 conv=>whnf
 repeat (refine aa.of ?_;conv=>whnf)
 refine bF.split (fun hlt=>?_) (fun hlt=>?_)
 · have hlt':i<q.length:=by
    simp only[ao,decide_eq_true_eq] at hlt
    omega
   repeat' (first
    | (refine ar.aj (ak.index ae (t:=27) rfl rfl rfl (by omega) (by omega) hh.nil fun ad had=>?_);conv=>whnf)
    | (refine ar.aj (ak.aH ae rfl rfl (ad:=ad) (k:=i*9+8) (L:=q.flatMap gv) (v:=du q[i].data) (.fact fun w hw=>had ▸ hw) (fun hs=>by first | (rw[Addr.bD hs];simp)) (by rw[bY (z:=9) (fun _=>rfl) hlt' (by decide)];rfl) ?_);conv=>whnf))
   refine⟨(i+1,IntKind.i64.wrap (n+IntKind.i64.wrap (10+(q[i].data.n:Int)))),⟨hlt',by dsimp only;omega⟩,?_,?_,ax.refl _⟩
   · conv=>whnf
     refine⟨?_,rfl⟩
     repeat (first | exact au.nil | refine au.any ?_ | refine au.cons ?_ | refine au.eq (by rw[wrap_i64 (by omega)];rfl) ?_)
   · conv=>whnf
     exact⟨⟨rfl,rfl⟩,trivial⟩
 · repeat' (first
    | (refine aa.of ?_;conv=>whnf))
   all_goals exact⟨_,ax.refl _,_,rfl⟩
theorem wE (x:Be):af Tryz.prog 20 [.agg ⟨dZ x⟩] (fun _=>True) (fun v F=>∃ q,v = .bool q):=by
 have h1:=fU x.co
 have h2:=fU x.ci
 refine af.aG ae Tryz.func20 rfl (by decide) (n:=Tryz.f20.ntmps - 1) rfl rfl fun w0 av=>?_
 conv=>whnf
 repeat (refine aa.of ?_;conv=>whnf)
 intro b1
 conv=>whnf
 repeat (refine aa.of ?_;conv=>whnf)
 repeat' (first
  | (refine aw.val h1 (fun w hw=>trivial) (fun v D hv=>?_);obtain⟨q,rfl⟩:=hv;conv=>whnf)
  | (refine aw.val h2 (fun w hw=>trivial) (fun v D hv=>?_);obtain⟨q,rfl⟩:=hv;conv=>whnf)
  | (split<;>conv=>whnf))
 all_goals exact⟨_,ax.refl _,_,rfl⟩
theorem vS (x:zY) (hh:x.fh.Ok x.fly.length) (hl:x.fly.length≤140737488355328) (hwh:x.wh.Ok x.wait.length) (hwl:x.wait.length≤140737488355328):af Tryz.prog 19 [.agg ⟨dO x⟩] (fun w=>ai w x.fh.a (x.fly.flatMap bX)∧ai w x.wh.a (x.wait.map du)) (fun v F=>∃ q,v = .bool q):=by
 have h1:=fU x.co
 have h2:=fU x.ci
 refine af.aG ae Tryz.func19 rfl (by decide) (n:=Tryz.f19.ntmps - 1) rfl rfl fun w0 av=>?_
 conv=>whnf
 repeat (refine aa.of ?_;conv=>whnf)
 intro b1
 conv=>whnf
 repeat (refine aa.of ?_;conv=>whnf)
 refine az.loop ae (ι:=Nat×Int) ([3,4]++List.range' 6 17) (fun y=>y.1≤x.fly.length) (fun y=>[(3,.v (.int .i64 y.2)),(4,.v (.int .i64 (y.1:Int)))]) (fun _=>[dO x]) (fun _=>⟨fun w=>ai w x.fh.a (x.fly.flatMap bX)∧ai w x.wh.a (x.wait.map du),[]⟩) (fun y=>x.fly.length - y.1) (0,0) (Nat.zero_le _) ?_ rfl (ax.refl _) fun y hi=>?_
 · conv=>whnf
   repeat (first | exact au.nil | refine au.any ?_ | refine au.cons ?_)
 obtain⟨i,n⟩:=y
 dsimp only at hi ⊢
 conv=>whnf
 repeat (refine aa.of ?_;conv=>whnf)
 refine bF.split (fun hlt=>?_) (fun hlt=>?_)
 · have hlt':i<x.fly.length:=by
    simp only[ao,decide_eq_true_eq] at hlt
    omega
   repeat' (first
    | (refine ar.aj (ak.index ae (t:=58) rfl rfl rfl (by omega) (by omega) hh.nil fun ad had=>?_);conv=>whnf)
    | (refine ar.aj (ak.aH ae rfl rfl (ad:=ad) (k:=i*2+1) (L:=x.fly.flatMap bX) (v:=du x.fly[i].data) (.fact fun w hw=>had ▸ hw.1) (fun hs=>by first | (rw[Addr.bD hs];simp)) (by rw[bY (z:=2) (fun _=>rfl) hlt' (by decide)];rfl) ?_);conv=>whnf))
   refine⟨(i+1,IntKind.i64.wrap (n+IntKind.i64.wrap (10+(x.fly[i].data.n:Int)))),⟨hlt',by dsimp only;omega⟩,?_,?_,ax.refl _⟩
   · conv=>whnf
     refine⟨?_,rfl⟩
     repeat (first | exact au.nil | refine au.any ?_ | refine au.cons ?_ | refine au.eq (by rw[wrap_i64 (by omega)];rfl) ?_)
   · conv=>whnf
     exact⟨⟨rfl,rfl⟩,trivial⟩
 · conv=>whnf
   repeat (refine aa.of ?_;conv=>whnf)
   refine az.loop ae (ι:=Nat×Int) ([3,5]++List.range' 23 16) (fun y=>y.1≤x.wait.length) (fun y=>[(3,.v (.int .i64 y.2)),(5,.v (.int .i64 (y.1:Int)))]) (fun _=>[dO x]) (fun _=>⟨fun w=>ai w x.fh.a (x.fly.flatMap bX)∧ai w x.wh.a (x.wait.map du),[]⟩) (fun y=>x.wait.length - y.1) (0,n) (Nat.zero_le _) ?_ rfl (ax.refl _) fun y hi=>?_
   · conv=>whnf
     repeat (first | exact au.nil | refine au.any ?_ | refine au.cons ?_)
   obtain⟨i,n⟩:=y
   dsimp only at hi ⊢
   conv=>whnf
   repeat (refine aa.of ?_;conv=>whnf)
   refine bF.split (fun hlt=>?_) (fun hlt=>?_)
   · have hlt':i<x.wait.length:=by
      simp only[ao,decide_eq_true_eq] at hlt
      omega
     repeat' (first
      | (refine ar.aj (ak.index ae (t:=40) rfl rfl rfl (by omega) (by omega) hwh.nil fun ad had=>?_);conv=>whnf)
      | (refine ar.aj (ak.aH ae rfl rfl (ad:=ad) (k:=i) (L:=x.wait.map du) (v:=du x.wait[i]) (.fact fun w hw=>had ▸ hw.2) (fun _=>by simp) (by rw[List.getElem?_map,List.getElem?_eq_getElem hlt'];rfl) ?_);conv=>whnf))
     refine⟨(i+1,IntKind.i64.wrap (n+IntKind.i64.wrap (10+(x.wait[i].n:Int)))),⟨hlt',by dsimp only;omega⟩,?_,?_,ax.refl _⟩
     · conv=>whnf
       refine⟨?_,rfl⟩
       repeat (first | exact au.nil | refine au.any ?_ | refine au.cons ?_ | refine au.eq (by rw[wrap_i64 (by omega)];rfl) ?_)
     · conv=>whnf
       exact⟨⟨rfl,rfl⟩,trivial⟩
   · repeat' (first
      | (refine aa.of ?_;conv=>whnf)
      | (refine aw.val h1 (fun w hw=>trivial) (fun v D hv=>?_);obtain⟨q,rfl⟩:=hv;conv=>whnf)
      | (refine aw.val h2 (fun w hw=>trivial) (fun v D hv=>?_);obtain⟨q,rfl⟩:=hv;conv=>whnf)
      | (split<;>conv=>whnf))
     all_goals exact⟨_,ax.refl _,_,rfl⟩
def we (s:bW):Nat:=s.rc.l.length+s.ac.l.length+s.nw.l.length+s.qu.l.length+s.cp.l.length+s.gr.l.length+s.ti.l.length+s.wi.l.length+s.al.l.length+s.pr.l.length
def iu (s:bW):Nat→Nat
 | 0=>we s
 | i+1=>iu s i+((s.sp i).l.length+(s.T i).data.n/10)
theorem qW (s:bW) : ∀ i j,i≤j→iu s i≤iu s j:=by
 intro i j h
 induction h with
 | refl=>exact Nat.le_refl _
 | step _ ih=>exact Nat.le_trans ih (by rw[iu];omega)
theorem Bv (s:bW) {i:Nat} (hi:i<32):(s.sp i).l.length≤iu s 32:=by
 have:=qW s (i+1) 32 (by omega)
 rw[iu] at this
 omega
theorem zK (s:bW):we s≤iu s 32:=qW s 0 32 (by omega)
theorem zA {a b:Nat} (h:a+b≤4611686018427387904):IntKind.i64.wrap ((a:Int)+(b:Int))=((a+b:Nat):Int):=by
 rw[wrap_i64 (by omega)]
 omega
theorem xj (s:bW) (h0:we s≤2000000000000000) (h1 : ∀ i,i<32→(s.sp i).l.length≤140737488355328) (h2 : ∀ i,i<32→(s.T i).data.n≤140737488355328) : ∀ i,i≤32→iu s i≤2000000000000000+i*281474976710656
 | 0,_=>by rw[iu];omega
 | i+1,h=>by
  have:=xj s h0 h1 h2 i (by omega)
  have:=h1 i (by omega)
  have:=h2 i (by omega)
  rw[iu]
  omega
theorem yq (s:bW) (i:Nat) (h:iu s i≤2000000000000000+i*281474976710656) (hd:(s.T i).data.n≤140737488355328) (hs:(s.sp i).l.length≤140737488355328) (hi:i<32) :
 IntKind.i64.wrap ((iu s i:Int)+IntKind.i64.wrap (((s.sp i).l.length:Int)+IntKind.i64.wrap (((s.T i).data.n:Int).tdiv (Int.ofNat (9+1)))))=((iu s (i+1):Nat):Int):=by
 have e:((s.T i).data.n:Int).tdiv (Int.ofNat (9+1))=(((s.T i).data.n/10:Nat):Int):=rfl
 have e2:IntKind.i64.wrap (((s.T i).data.n/10:Nat):Int)=(((s.T i).data.n/10:Nat):Int):=wrap_i64 (by omega)
 rw[e,e2,zA (by omega),zA (by omega)]
 rfl
theorem xF (s:bW) (ho:s.Wide) (hd : ∀ i,i<32→(s.T i).data.n≤140737488355328):af Tryz.prog 8 [.agg ⟨jN s⟩] s.Rows (fun v F=>∃ q,v = .bool q∧(q=true→(iu s 32≤3000∧s.pe.l.length≤40)∧s.lk.co.left=0∧s.lk.ci.left=0∧s.se.co.left=0∧s.se.ci.left=0)):=by
 have h08:=wC s.pg.l s.pg.h ho.pg.h ho.pg.le
 have h11:=vk s.bk.l s.bk.h ho.bk.h ho.bk.le s.dc
 have h12:=vS s.lk ho.fh ho.fl ho.wh ho.wl
 have h13:=wE s.se
 have h15:=vm (s.M 0) (s.M 1) (s.M 2) (s.M 3) (s.M 4) s.pe.l s.pe.h ho.pe.h ho.pe.le
 have h20:=vF s.q.l s.q.h ho.q.h ho.q.le s.pr.v ⟨_,_,_,rfl⟩
 have l1:=ho.pr.le
 have l2:=ho.cp.le
 have l3:=ho.gr.le
 have l4:=ho.ti.le
 have l5:=ho.qu.le
 have l6:=ho.wi.le
 have l7:=ho.al.le
 have l8:=ho.rc.le
 have l9:=ho.ac.le
 have l10:=ho.nw.le
 have hsl:we s≤2000000000000000:=by
  unfold we
  omega
 have hsum:=xj s hsl (fun i hi=>(ho.sp i hi).le) hd
 obtain⟨E,hE⟩ : ∃ E,jN s=E:=⟨_,rfl⟩
 have eT : ∀ i,i<32→(E.drop (i*8)).take 8=fL (s.T i):=fun i hi=>by rw[← hE];exact BN s i hi
 have eS : ∀ i,i<32→E[275+i]? = some (s.sp i).v:=fun i hi=>by rw[← hE];exact zj s i hi
 have eDk:(E.drop 308).take 10=s.bk.v::cE s.dc:=by rw[← hE];kernel_rfl
 have eLk:(E.drop 322).take 24=dO s.lk:=by rw[← hE];kernel_rfl
 have eSe:(E.drop 346).take 23=dZ s.se:=by rw[← hE];kernel_rfl
 have eIq:(E.drop 371).take 6 = [.bool (s.M 0),.bool (s.M 1),.bool (s.M 2),.bool (s.M 3),.bool (s.M 4),s.pe.v]:=by rw[← hE];kernel_rfl
 have ePo:(E.drop 267).take 2 = [s.q.v,s.pr.v]:=by rw[← hE];kernel_rfl
 have ePg:(E.drop 274).take 1 = [s.pg.v]:=by rw[← hE];kernel_rfl
 have ePr:E[268]? = some (s.pr.v):=by rw[← hE];kernel_rfl
 have eCp:E[270]? = some (s.cp.v):=by rw[← hE];kernel_rfl
 have eGr:E[271]? = some (s.gr.v):=by rw[← hE];kernel_rfl
 have eTi:E[272]? = some (s.ti.v):=by rw[← hE];kernel_rfl
 have eQu:E[273]? = some (s.qu.v):=by rw[← hE];kernel_rfl
 have eWi:E[307]? = some (s.wi.v):=by rw[← hE];kernel_rfl
 have eAl:E[370]? = some (s.al.v):=by rw[← hE];kernel_rfl
 have eRc:E[377]? = some (s.rc.v):=by rw[← hE];kernel_rfl
 have eAc:E[378]? = some (s.ac.v):=by rw[← hE];kernel_rfl
 have eNw:E[379]? = some (s.nw.v):=by rw[← hE];kernel_rfl
 rw[hE]
 refine af.aG ae Tryz.func8 rfl (by decide) (n:=Tryz.f8.ntmps - 1) rfl rfl fun w0 av=>?_
 conv=>whnf
 repeat (refine aa.of ?_;conv=>whnf)
 refine ar.bQ fun br=>?_
 conv=>whnf
 repeat (refine aa.of ?_;conv=>whnf)
 repeat' (first
  | (refine ar.aj (ak.aH ae rfl rfl (ad:=⟨br,0,none⟩) (k:=377) (L:=E) (v:=s.rc.v) (aK.row (List.Mem.head _)) (fun _=>rfl) eRc ?_);conv=>whnf)
  | (refine ar.aj (ak.aH ae rfl rfl (ad:=⟨br,0,none⟩) (k:=378) (L:=E) (v:=s.ac.v) (aK.row (List.Mem.head _)) (fun _=>rfl) eAc ?_);conv=>whnf)
  | (refine ar.aj (ak.aH ae rfl rfl (ad:=⟨br,0,none⟩) (k:=379) (L:=E) (v:=s.nw.v) (aK.row (List.Mem.head _)) (fun _=>rfl) eNw ?_);conv=>whnf)
  | (refine ar.aj (ak.aH ae rfl rfl (ad:=⟨br,0,none⟩) (k:=273) (L:=E) (v:=s.qu.v) (aK.row (List.Mem.head _)) (fun _=>rfl) eQu ?_);conv=>whnf)
  | (refine ar.aj (ak.aH ae rfl rfl (ad:=⟨br,0,none⟩) (k:=270) (L:=E) (v:=s.cp.v) (aK.row (List.Mem.head _)) (fun _=>rfl) eCp ?_);conv=>whnf)
  | (refine ar.aj (ak.aH ae rfl rfl (ad:=⟨br,0,none⟩) (k:=271) (L:=E) (v:=s.gr.v) (aK.row (List.Mem.head _)) (fun _=>rfl) eGr ?_);conv=>whnf)
  | (refine ar.aj (ak.aH ae rfl rfl (ad:=⟨br,0,none⟩) (k:=272) (L:=E) (v:=s.ti.v) (aK.row (List.Mem.head _)) (fun _=>rfl) eTi ?_);conv=>whnf)
  | (refine ar.aj (ak.aH ae rfl rfl (ad:=⟨br,0,none⟩) (k:=307) (L:=E) (v:=s.wi.v) (aK.row (List.Mem.head _)) (fun _=>rfl) eWi ?_);conv=>whnf)
  | (refine ar.aj (ak.aH ae rfl rfl (ad:=⟨br,0,none⟩) (k:=370) (L:=E) (v:=s.al.v) (aK.row (List.Mem.head _)) (fun _=>rfl) eAl ?_);conv=>whnf)
  | (refine ar.aj (ak.aH ae rfl rfl (ad:=⟨br,0,none⟩) (k:=268) (L:=E) (v:=s.pr.v) (aK.row (List.Mem.head _)) (fun _=>rfl) ePr ?_);conv=>whnf))
 refine az.loop ae (ι:=Nat) ([3,4]++List.range' 47 19) (fun x=>x≤32)
  (fun x=>[(3,.v (.int .i64 (iu s x:Int))),(4,.v (.int .i64 (x:Int)))]) (fun _=>[]) (fun _=>⟨s.Rows,[(br,Row.c E)]⟩)
  (fun x=>32 - x) 0 (Nat.zero_le _) ?_ rfl (ax.of_le ⟨by simp[Value.cells],fun w hw=>hw⟩) fun i hi=>?_
 · conv=>whnf
   repeat (first | exact au.nil | refine au.any ?_ | refine au.cons ?_ | refine au.eq (congrArg (fun z=>SV.v (Value.int .i64 z)) (by(iterate 9 rw[zA (by omega)])<;>rfl)) ?_)
 have hsi:=hsum i hi
 conv=>whnf
 repeat (refine aa.of ?_;conv=>whnf)
 refine bF.split (fun hlt=>?_) (fun hlt=>?_)
 · have hlt':i<32:=by
    simp[ao] at hlt
    omega
   have hd1:=hd i hlt'
   have hs1:=(ho.sp i hlt').le
   conv=>whnf
   repeat (refine aa.of ?_;conv=>whnf)
   refine az.draw ae mixed rfl rfl ?_
   conv=>whnf
   repeat' (first
    | (refine cj.same rfl ?_;conv=>whnf)
    | (refine ak.bj ae rfl rfl rfl i rfl hlt' rfl ?_;conv=>whnf)
    | (refine ak.aH ae rfl rfl (ad:=⟨br,0,none⟩) (k:=275+i*1) (L:=E) (v:=(s.sp i).v) (aK.row (List.Mem.head _)) (fun _=>Addr.bD rfl _ _) (by rw[Nat.mul_one];exact eS i hlt') ?_;conv=>whnf)
    | (refine ak.aH ae rfl rfl (ad:=⟨br,0,none⟩) (k:=i*8+7) (L:=E) (v:=du (s.T i).data) (aK.row (List.Mem.head _)) (fun _=>Addr.bD rfl _ _) (cellOf (eT i hlt') (j:=7) (by decide) rfl) ?_;conv=>whnf))
   refine⟨i+1,⟨hlt',by dsimp only;omega⟩,?_,?_,ax.refl _⟩
   · conv=>whnf
     refine⟨?_,rfl⟩
     repeat (first | exact au.nil | refine au.any ?_ | refine au.cons ?_ | refine au.eq (congrArg (fun z=>SV.v (Value.int .i64 z)) (yq s i hsi hd1 hs1 hlt')) ?_ | refine au.eq (by rw[wrap_i64 (by omega)];rfl) ?_)
   · conv=>whnf
     exact trivial
 · have hie:i=32:=by
    simp[ao] at hlt
    omega
   subst hie
   conv=>whnf
   repeat (refine aa.of ?_;conv=>whnf)
   repeat' (first
    | (refine ar.aj (ak.aQ ae rfl rfl (ad:=⟨br,0,none⟩) (k:=274) (L:=E) (aK.row (List.Mem.head _)) rfl ePg rfl ?_);conv=>whnf)
    | (refine ar.aj (ak.aQ ae rfl rfl (ad:=⟨br,0,none⟩) (k:=308) (L:=E) (aK.row (List.Mem.head _)) rfl eDk rfl ?_);conv=>whnf)
    | (refine ar.aj (ak.aQ ae rfl rfl (ad:=⟨br,0,none⟩) (k:=322) (L:=E) (aK.row (List.Mem.head _)) rfl eLk rfl ?_);conv=>whnf)
    | (refine ar.aj (ak.aQ ae rfl rfl (ad:=⟨br,0,none⟩) (k:=346) (L:=E) (aK.row (List.Mem.head _)) rfl eSe rfl ?_);conv=>whnf)
    | (refine ar.aj (ak.aQ ae rfl rfl (ad:=⟨br,0,none⟩) (k:=371) (L:=E) (aK.row (List.Mem.head _)) rfl eIq rfl ?_);conv=>whnf)
    | (refine ar.aj (ak.aQ ae rfl rfl (ad:=⟨br,0,none⟩) (k:=267) (L:=E) (aK.row (List.Mem.head _)) rfl ePo rfl ?_);conv=>whnf)
    | (refine ar.aj (ak.aH ae rfl rfl (ad:=⟨br,0,none⟩) (k:=333) (L:=E) (v:=.int .i64 s.lk.co.left) (aK.row (List.Mem.head _)) (fun _=>rfl) (cellOf eLk (j:=11) (by decide) rfl) ?_);conv=>whnf)
    | (refine ar.aj (ak.aH ae rfl rfl (ad:=⟨br,0,none⟩) (k:=342) (L:=E) (v:=.int .i64 s.lk.ci.left) (aK.row (List.Mem.head _)) (fun _=>rfl) (cellOf eLk (j:=20) (by decide) rfl) ?_);conv=>whnf)
    | (refine ar.aj (ak.aH ae rfl rfl (ad:=⟨br,0,none⟩) (k:=356) (L:=E) (v:=.int .i64 s.se.co.left) (aK.row (List.Mem.head _)) (fun _=>rfl) (cellOf eSe (j:=10) (by decide) rfl) ?_);conv=>whnf)
    | (refine ar.aj (ak.aH ae rfl rfl (ad:=⟨br,0,none⟩) (k:=365) (L:=E) (v:=.int .i64 s.se.ci.left) (aK.row (List.Mem.head _)) (fun _=>rfl) (cellOf eSe (j:=19) (by decide) rfl) ?_);conv=>whnf)
    | (refine aw.val h08 (fun w hw=>hw.pg) (fun v D hv=>?_);obtain⟨q8,rfl⟩:=hv;conv=>whnf)
    | (refine aw.val h11 (fun w hw=>hw.bk) (fun v D hv=>?_);obtain⟨q11,rfl⟩:=hv;conv=>whnf)
    | (refine aw.val h12 (fun w hw=>⟨hw.fl,hw.wt⟩) (fun v D hv=>?_);obtain⟨q12,rfl⟩:=hv;conv=>whnf)
    | (refine aw.val h13 (fun w hw=>trivial) (fun v D hv=>?_);obtain⟨q13,rfl⟩:=hv;conv=>whnf)
    | (refine aw.val h15 (fun w hw=>hw.pe) (fun v D hv=>?_);obtain⟨q15,rfl,h40⟩:=hv;conv=>whnf)
    | (refine aw.val h20 (fun w hw=>hw.q) (fun v D hv=>?_);obtain⟨q20,rfl⟩:=hv;conv=>whnf)
    | (split<;>conv=>whnf))
   all_goals first
    | (refine⟨_,ax.refl _,_,rfl,fun hh=>?_⟩;cases hh;done)
    | (
     refine⟨_,ax.refl _,_,rfl,fun hh=>⟨⟨?_,?_⟩,?_⟩⟩
     · have h:=‹eW ((iu s 32:Nat):Int) 3000=true›
       rw[aC,decide_eq_true_eq] at h
       omega
     · exact h40 ‹(bif true then q15 else false)=true›
     · clear h40
       simp_all [aA])
def jW (T:Nat→gU) (hc ht hp hb hq:Hd) (pl bl:List Bs):bW:=Bt.pR ⟨168,⟨hc,eR⟩,⟨ht,qb⟩,⟨hp,pl⟩,⟨hb,bl⟩⟩ T ⟨hq,Ca⟩
def mT:Nat→gU:=j9 dE 17 { dE 17 with kind:=3 }
theorem u3 {n:Nat} {l:List Bs} (h:ir n l):dy n l=true:=by
 unfold dy
 rw[decide_eq_true h.1,Bool.true_and,Bool.not_eq_true',List.any_eq_false]
 intro x hx
 rw[(h.2 x hx).1]
 simp[aE]
section
variable (hc ht hp hb hq:Hd) (pl bl:List Bs) (h1:ir 96 pl) (h2:ir 160 bl)
include h1 h2
theorem pb (T:Nat→gU):eh (jW T hc ht hp hb hq pl bl)=true:=by
 unfold eh jW
 dsimp only[Bt.pR]
 rw[u3 h1,u3 h2]
 kernel_rfl
theorem vE : ∀ k,1≤k→k≤14→bR (jW dE hc ht hp hb hq pl bl) k=true
 | 0,h,_=>absurd h (by decide)
 | 1,_,_=>pb hc ht hp hb hq pl bl h1 h2 dE
 | 2,_,_=>by kernel_rfl
 | 3,_,_=>by kernel_rfl
 | 4,_,_=>by kernel_rfl
 | 5,_,_=>by kernel_rfl
 | 6,_,_=>by kernel_rfl
 | 7,_,_=>by kernel_rfl
 | 8,_,_=>by kernel_rfl
 | 9,_,_=>by kernel_rfl
 | 10,_,_=>by kernel_rfl
 | 11,_,_=>by kernel_rfl
 | 12,_,_=>by kernel_rfl
 | 13,_,_=>by kernel_rfl
 | 14,_,_=>by kernel_rfl
 | k+15,_,h=>absurd h (by omega)
theorem AU:dA (jW dE hc ht hp hb hq pl bl)=0:=yO.2 (vE hc ht hp hb hq pl bl h1 h2)
theorem xP:dA (jW mT hc ht hp hb hq pl bl)=4:=
 CV (by decide) (by decide) (by kernel_rfl) fun j hj1 hj2=>by
  match j,hj1,hj2 with
  | 1,_,_=>exact pb hc ht hp hb hq pl bl h1 h2 mT
  | 2,_,_=>exact(show bR (jW mT hc ht hp hb hq pl bl) 2=true by kernel_rfl)
  | 3,_,_=>exact(show bR (jW mT hc ht hp hb hq pl bl) 3=true by kernel_rfl)
end
theorem w5:Ca.length=11:=by decide
theorem uT (T:Nat→gU) {hc ht hp hb hq:Hd} {pl bl:List Bs} (h1:ir 96 pl) (h2:ir 160 bl) (o1:hc.Ok eR.length) (o2:ht.Ok 1) (o3:hp.Ok pl.length) (o4:hb.Ok bl.length) (o5:hq.Ok 11):(jW T hc ht hp hb hq pl bl).Ok:=by
 have e : ∀ {α:Type},(⟨Hd.nil,([]:List α)⟩:Sl α).Ok:=⟨Hd.ox,Nat.zero_le _⟩
 refine⟨⟨e,e,⟨o1,?_⟩,e,⟨o2,show 1≤140737488355328 by decide⟩,⟨by rw[← w5] at o5;exact o5,?_⟩,⟨o3,?_⟩,fun i _=>e,e,⟨o4,?_⟩,Hd.ox,Nat.zero_le _,Hd.ox,Nat.zero_le _,e,e,e,e,e⟩,Nat.zero_le _,fun i _=>Nat.zero_le _⟩
 · show eR.length≤_
   rw[qZ]
   decide
 · show Ca.length≤_
   rw[w5]
   decide
 · show pl.length≤_
   rw[h1.1]
   decide
 · show bl.length≤_
   rw[h2.1]
   decide
end Go.Proofs.YtlnhdpjnlffaoaaGreatDoor
namespace Go.Proofs.YtlnhdpjnlffaoaaGreatDoor
open Go Go.Sx
set_option maxRecDepth 100000
set_option maxHeartbeats 4000000
set_option linter.unusedVariables false
set_option linter.unusedSimpArgs false
theorem oh {T:Nat→gU} {hc ht hp hb hq:Hd} {pl bl:List Bs} {w:World} (h:Bt.DE ⟨168,⟨hc,eR⟩,⟨ht,qb⟩,⟨hp,pl⟩,⟨hb,bl⟩⟩ hq w):(jW T hc ht hp hb hq pl bl).Rows w:=by
 obtain⟨⟨⟨⟨h1,h2⟩,h3⟩,h4⟩,h5⟩:=h
 exact⟨rfl,rfl,h1,rfl,h2,h3,h4,fun i _=>rfl,rfl,h5,rfl,rfl,rfl,rfl,rfl,rfl⟩
structure Bo where
 hc:Hd
 ht:Hd
 hp:Hd
 hb:Hd
 hq:Hd
 pl:List Bs
 bl:List Bs
structure Bo.Ok (x:Bo):Prop where
 z1:ir 96 x.pl
 z2:ir 160 x.bl
 o1:x.hc.Ok eR.length
 o2:x.ht.Ok 1
 o3:x.hp.Ok x.pl.length
 o4:x.hb.Ok x.bl.length
 o5:x.hq.Ok 11
def Bo.at (x:Bo) (w:World):Prop:=Bt.DE ⟨168,⟨x.hc,eR⟩,⟨x.ht,qb⟩,⟨x.hp,x.pl⟩,⟨x.hb,x.bl⟩⟩ x.hq w
def Bo.C (x:Bo) (T:Nat→gU):List Value:=aT (jW T x.hc x.ht x.hp x.hb x.hq x.pl x.bl)
theorem Bo.put (x:Bo):laid (x.C dE) (17*8) [.int .i64 3]=x.C mT:=by
 unfold Bo.C
 kernel_rfl
theorem Bo.DR (x:Bo) (h:x.Ok):af Tryz.prog 10 [.agg ⟨x.C dE⟩] (fun w=>bJ w∧x.at w) (fun v F=>v = .tuple ⟨[.int .i64 0,.bool true]⟩):=by
 have k:=ka _ _ (sW _) (uT dE h.z1 h.z2 h.o1 h.o2 h.o3 h.o4 h.o5)
 rw[AU x.hc x.ht x.hp x.hb x.hq x.pl x.bl h.z1 h.z2] at k
 exact k.imp (fun w hw=>⟨oh hw.2,hw.1⟩) fun v F hv=>hv
theorem Bo.Ek (x:Bo) (h:x.Ok):af Tryz.prog 10 [.agg ⟨x.C mT⟩] (fun w=>bJ w∧x.at w) (fun v F=>v = .tuple ⟨[.int .i64 4,.bool false]⟩):=by
 have k:=ka _ _ (sW _) (uT mT h.z1 h.z2 h.o1 h.o2 h.o3 h.o4 h.o5)
 rw[xP x.hc x.ht x.hp x.hb x.hq x.pl x.bl h.z1 h.z2] at k
 exact k.imp (fun w hw=>⟨oh hw.2,hw.1⟩) fun v F hv=>hv
theorem Bo.len (x:Bo) (T:Nat→gU):(x.C T).length=376:=ba _
theorem Bo.one (x:Bo) (T:Nat→gU) : ∀ v∈x.C T,a7 v=true:=fT _
attribute [irreducible] Bo.C Bo.at
noncomputable def oy:Code:=Tryz.f7.body.getD .skip
def Dl (b2:Nat):List SV:=[.any,.any,.v (.pointer (some ⟨b2,0,none⟩))]++List.replicate 35 .any
def wQ (b2:Nat):List SV:=[.any,.any,.v (.pointer (some ⟨b2,0,none⟩)),.any,.v (.bool true)]++List.replicate 33 .any
noncomputable def xf:Exit→KT:=lz aY Tryz.f7.results.toList (eg fun v F=>v = .bool true)
theorem EH (x:Bo) (hx:x.Ok) (w0:World) (av:Nat→Prop) (b2:Nat):az Tryz.prog w0 (fun _ _=>False) av (cY 6 oy) (wQ b2) [] [] ⟨fun w=>bJ w∧x.at w,[(b2,Row.c (x.C mT))]⟩ xf:=by
 have k2:=x.Ek hx
 have l2:=x.len mT
 have n4:=vY
 obtain⟨O2,hO2⟩ : ∃ O,x.C mT=O:=⟨_,rfl⟩
 rw[hO2] at k2 l2 ⊢
 refine az.aG ae ?_
 conv=>whnf
 repeat (refine aa.of ?_;conv=>whnf)
 refine ar.aj (ak.aQ ae rfl rfl (ad:=⟨b2,0,none⟩) (k:=0) (L:=O2) (m:=O2) (aK.row (by simp)) rfl (by rw[List.drop_zero];exact List.take_of_length_le (by rw[l2];exact Nat.le_refl _)) l2 ?_)
 conv=>whnf
 repeat (refine aa.of ?_;conv=>whnf)
 refine aw.val k2 (fun w hw=>hw) (fun v D hv=>?_)
 subst hv
 conv=>whnf
 repeat (refine aa.of ?_;conv=>whnf)
 refine bF.yes (by simp[aA]) ?_
 conv=>whnf
 repeat (refine aa.of ?_;conv=>whnf)
 refine aw.val n4 (fun w hw=>trivial) (fun v D hv=>?_)
 subst hv
 conv=>whnf
 repeat (refine aa.of ?_;conv=>whnf)
 refine ar.aj (ak.DJ (l:=[113,117,101,117,101]) (m:=[113,117,101,117,101]) ?_)
 conv=>whnf
 repeat (refine aa.of ?_;conv=>whnf)
 exact⟨_,ax.refl _,rfl⟩
theorem EZ (x:Bo) (hx:x.Ok) (w0:World) (av:Nat→Prop) (b2:Nat):az Tryz.prog w0 (fun _ _=>False) av (cY 5 oy) (wQ b2) [] [] ⟨fun w=>bJ w∧x.at w,[(b2,Row.c (x.C dE))]⟩ xf:=by
 have hp:=x.put
 have l1:=x.len dE
 refine az.cr ae 1 (ι:=Unit) (fun _=>True) (fun _=>wQ b2) (fun _=>[]) (fun _=>⟨fun w=>bJ w∧x.at w,[] ++ [(b2,Row.c (x.C mT))] ++ []⟩) ?_ ?_
 · conv=>whnf
   repeat (refine aa.of ?_;conv=>whnf)
   refine ar.aj (ak.bj ae rfl rfl rfl 17 rfl (by decide) rfl ?_)
   conv=>whnf
   repeat (refine aa.of ?_;conv=>whnf)
   refine aP.bZ (F':=⟨fun w=>bJ w∧x.at w,[] ++ [(b2,Row.c (x.C dE))] ++ []⟩) (ax.of_le ⟨by simp,fun w hw=>hw⟩) ?_
   refine aP.aX ae rfl (b:=b2) (k:=17*8) (X:=x.C mT) (by rw[Addr.bE,Addr.bE,Addr.bE];rfl) rfl (List.all_eq_true.1 (by rfl)) (by rw[l1];decide) hp ?_
   conv=>whnf
   repeat (refine aa.of ?_;conv=>whnf)
   refine⟨(),trivial,[],⟨by decide,by simp,rfl⟩,?_,ax.refl _⟩
   repeat (first | exact au.nil | refine au.any ?_ | refine au.cons ?_)
 · intro _ _ bs' hbs'
   obtain rfl:=List.eq_nil_of_length_eq_zero hbs'
   rw[aS]
   exact EH x hx w0 av b2
theorem EX (x:Bo) (hx:x.Ok) (w0:World) (av:Nat→Prop) (b2:Nat):az Tryz.prog w0 (fun _ _=>False) av (cY 4 oy) (Dl b2) [] [] ⟨fun w=>bJ w∧x.at w,[(b2,Row.c (x.C dE))]⟩ xf:=by
 have k1:=x.DR hx
 have l1:=x.len dE
 refine az.cr ae 1 (ι:=Unit) (fun _=>True) (fun _=>wQ b2) (fun _=>[]) (fun _=>⟨fun w=>bJ w∧x.at w,[(b2,Row.c (x.C dE))]⟩) ?_ ?_
 · conv=>whnf
   repeat (refine aa.of ?_;conv=>whnf)
   refine ar.aj (ak.aQ ae rfl rfl (ad:=⟨b2,0,none⟩) (k:=0) (L:=x.C dE) (m:=x.C dE) (aK.row (by simp)) rfl (by rw[List.drop_zero];exact List.take_of_length_le (by rw[l1];exact Nat.le_refl _)) l1 ?_)
   conv=>whnf
   repeat (refine aa.of ?_;conv=>whnf)
   refine aw.val k1 (fun w hw=>hw) (fun v D hv=>?_)
   subst hv
   conv=>whnf
   repeat (refine aa.of ?_;conv=>whnf)
   refine⟨(),trivial,[],⟨by decide,by simp,rfl⟩,?_,ax.refl _⟩
   repeat (first | exact au.nil | refine au.any ?_ | refine au.cons ?_)
 · intro _ _ bs' hbs'
   obtain rfl:=List.eq_nil_of_length_eq_zero hbs'
   rw[aS]
   exact EZ x hx w0 av b2
theorem wc:af Tryz.prog 7 [] bJ (fun v F=>v = .bool true):=by
 have hB:=wj
 have hcl:eR.length=167:=qZ
 have hnx:((eR.length+1:Nat):Int)=168:=by rw[hcl];rfl
 rw[hnx] at hB
 have hN:=za 168 eR (by rw[hcl];decide) hB
 obtain⟨Z,hZ⟩ : ∃ Z,aT kS=Z:=⟨_,rfl⟩
 have hZl:Z.length=376:=by rw[← hZ];exact ba _
 refine af.iL ae Tryz.func7 (c:=oy) rfl (by decide) (n:=Tryz.f7.ntmps - 0) rfl fun w0 av=>?_
 show az Tryz.prog w0 (fun _ _=>False) av oy _ [] [] _ xf
 refine az.cr ae 4 (ι:=Nat×Bo) (fun y=>y.2.Ok) (fun y=>Dl y.1) (fun _=>[]) (fun y=>⟨fun w=>bJ w∧y.2.at w,[(y.1,Row.c (y.2.C dE))]⟩) ?_ ?_
 · conv=>whnf
   repeat (refine aa.of ?_;conv=>whnf)
   refine aw.pure hN (fun w hw=>trivial) (fun v D hv=>?_)
   obtain⟨x,hq,bk,bs,x1,x2,x3,x4,x5,rfl,rfl⟩:=hv
   have hS:=vT 168 eR (by rw[hcl];decide) (by rw[hcl];decide) x hq bk bs x1 x2 x3 x4 x5
   conv=>whnf
   repeat (refine aa.of ?_;conv=>whnf)
   refine ar.aj (ak.zb ae (t:=142) rfl rfl ?_)
   conv=>whnf
   repeat (refine aa.of ?_;conv=>whnf)
   refine aw.pure hS (fun w hw=>hw.2) (fun v D hv=>?_)
   obtain⟨⟨nx,⟨hc,cl⟩,⟨ht,tl⟩,⟨hp,pl⟩,⟨hb,bl⟩⟩,hq',y1,y2,y3,y4,y5,rfl,rfl⟩:=hv
   dsimp only at y1 y2 y3
   subst y1 y2 y3
   obtain⟨o1,o2,o3,o4,o5,o6⟩:=y4
   obtain⟨y,hy⟩ : ∃ y:Bo,y=⟨hc,ht,hp,hb,hq',pl,bl⟩:=⟨_,rfl⟩
   have hyo:y.Ok:=by rw[hy];exact⟨o5,o6,o1,o2,o3,o4,y5⟩
   have hyC:aT (Bt.pR ⟨168,⟨hc,eR⟩,⟨ht,qb⟩,⟨hp,pl⟩,⟨hb,bl⟩⟩ dE ⟨hq',Ca⟩)=y.C dE:=by rw[hy];unfold Bo.C;rfl
   have hyA:Bt.DE ⟨168,⟨hc,eR⟩,⟨ht,qb⟩,⟨hp,pl⟩,⟨hb,bl⟩⟩ hq'=y.at:=by rw[hy];unfold Bo.at;rfl
   rw[hyC,hyA]
   have l1:=y.len dE
   have n1:=y.one dE
   clear hS hN hB hy hyC hyA
   conv=>whnf
   repeat (refine aa.of ?_;conv=>whnf)
   refine ar.bZ (F':=⟨fun w=>bJ w∧y.at w,[]⟩) (ax.of_le ⟨by simp[Fx.and],fun w hw=>⟨hw.1.1,hw.2⟩⟩) ?_
   refine ar.cT ae rfl (z:=Z) (by rw[← hZ];kernel_rfl) fun b2=>?_
   conv=>whnf
   repeat (refine aa.of ?_;conv=>whnf)
   refine aP.bZ (F':=⟨fun w=>bJ w∧y.at w,[] ++ [(b2,Row.c Z)] ++ []⟩) (ax.of_le ⟨by simp,fun w hw=>hw⟩) ?_
   refine aP.aX ae rfl (b:=b2) (k:=0) (X:=y.C dE) rfl (by exact l1) (by exact n1) (by rw[hZl];exact Nat.le_refl _) (bP (by rw[hZl];exact l1)) ?_
   conv=>whnf
   repeat (refine aa.of ?_;conv=>whnf)
   refine⟨(b2,y),hyo,[],⟨by decide,by simp,rfl⟩,?_,ax.of_le ⟨by simp,fun w hw=>hw⟩⟩
   repeat (first | exact au.nil | refine au.any ?_ | refine au.cons ?_)
 · intro y hy bs' hbs'
   obtain rfl:=List.eq_nil_of_length_eq_zero hbs'
   exact EX y.2 hy w0 av y.1
open Go Go.Sx Go.ChangeShapes Go.WideShapes Go.ChangeAt Go.RowKit
set_option maxHeartbeats 2000000
theorem AA:ownKnob Tryz.prog.godebug=none:=by kernel_rfl
theorem tV:laidOutB Tryz.prog=true:=by kernel_rfl
theorem pX:mapsRowed Tryz.prog=true:=by kernel_rfl
theorem y7:((List.range Tryz.prog.types.size).all fun t=>match Tryz.prog.underlying t with | some (.slice e)=>decide (0<Tryz.prog.cellsOf e) | _=>true)=true:=by kernel_rfl
theorem yl {W:World} (h:laidMetH Tryz.prog [("ratoon/message.forms",Rows.laid_ratoon_message_forms)] W):bJ W:=by
 rw[MakeChecks.laidMetH_plain _ _ _ (by kernel_rfl)] at h
 obtain⟨ps,⟨g,t,cs,fuel,p,q,h1,h2,h3,h4,-,-⟩,-,-⟩:=h
 have hg:Tryz.prog.globalNamed "ratoon/message.forms" = some 0:=by kernel_rfl
 rw[hg] at h1
 cases h1
 have ht:(Tryz.prog.globals[0]?).map (·.type)=some 340:=by kernel_rfl
 rw[ht] at h2
 cases h2
 obtain⟨xs,m,_,_,hl,_,_⟩:=DataW.trod_array Tryz.underlying340 h4
 have hc:Tryz.prog.cellsOf 340=112:=by kernel_rfl
 rw[hc] at hl
 have hcs:=uW hl h4 rfl
 unfold World.var? at h3
 rw[hg] at h3
 simp only[Option.bind_some] at h3
 split at h3
 · rename_i cs' e fz hb
   cases h3
   refine .inr ⟨rfl,cs,e,fz,hb,fun j hj=>?_⟩
   rw[← hcs]
   show cs[0+j]? = _
   rw[Nat.zero_add,Array.getElem?_toList]
 · cases h3
theorem Rows.agree {W w':World} {s:bW} (h:s.Rows W) (hw : ∀ b,b<W.heap.size→w'.heap[b]? = W.heap[b]?):s.Rows w':=
 ⟨ai.agree h.q hw,ai.agree h.pr hw,ai.agree h.cp hw,ai.agree h.gr hw,ai.agree h.ti hw,ai.agree h.qu hw,ai.agree h.pg hw,fun i hi=>ai.agree (h.sp i hi) hw,ai.agree h.wi hw,ai.agree h.bk hw,ai.agree h.fl hw,ai.agree h.wt hw,ai.agree h.al hw,ai.agree h.pe hw,ai.agree h.rc hw,ai.agree h.ac hw⟩
section
variable {H:Type} {enc:TypeId×Value→H} {w:World} {base:Nat} {spare:Nat→Bool} {held:Bool} {r:Reach} {b0:Nat}
theorem vb {v:Value} {d:DataW H} {p:List MemPlace} {ts:List TypeId} {ds:List (DataW H)} {j:Nat} (hv:Value.okWide Tryz.prog w r b0 74 v) (h:DataW.Trod enc Tryz.prog w base spare held 74 v d p)
 (hz:(DataW.weightsEach Tryz.prog ts ds).all (·≤reachBytes)=true) (ht:ts[j]? = some 74) (hd:ds[j]? = some d) : ∃ s:bW,v = .agg ⟨jN s⟩∧BR w s:=by
 obtain⟨q,hq⟩:=h
 simp only[Value.okWide,Tryz.underlying74] at hv
 obtain⟨⟨cs⟩,rfl,hsz,hr⟩:=hv
 have ho:=zL (enc:=enc) (w:=w) (base:=base) (spare:=spare) (held:=held)
 rw[ho.cells] at hsz
 obtain⟨s,hs,hin⟩:=ho.get q cs _ hq hsz fun k hk=>by
  have:=List.all_eq_true.1 hz k (DataW.weights_mem_each ht hd k hk)
  simpa using this
 exact⟨s,by rw[hs],hin⟩
end
end Go.Proofs.YtlnhdpjnlffaoaaGreatDoor
