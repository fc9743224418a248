/- Parts of the proof: AbS, AcA, AcB, AcC, AcD, AcE, AcF, AcG, AcH, AcI, AcJ, AcK, AcL, AcM, AcN, AcO, AcP, AcQ, AdB. -/
import Derived.Test.YtlnhdpjnlffaoaaGreatDoorQJ
import Derived.Test.YtlnhdpjnlffaoaaGreatDoorQN
import Derived.Test.YtlnhdpjnlffaoaaGreatDoorQO
namespace Go.Proofs.YtlnhdpjnlffaoaaGreatDoor
open Go Go.Sx
set_option maxRecDepth 100000
set_option maxHeartbeats 4000000
set_option linter.unusedVariables false
set_option linter.unusedSimpArgs false
instance:Inhabited zY:=⟨⟨default,0,0,0,Hd.nil,[],Hd.nil,[],default,default⟩⟩
def kS:bW:=⟨fun _=>default,fun _=>false,default,default,0,default,default,default,default,default,fun _=>default,default,default,default,⟨0,0,false,false⟩,⟨default,0,0,0,Hd.nil,[],Hd.nil,[],default,default⟩,default,0,default,fun _=>false,default,default,default,default⟩
def bW.zP (s:bW) (pr cp gr ti:Hd) (sp:Nat→Hd) (wi fh al pe nw:Hd):bW:=
 ⟨s.T,s.D,s.q,⟨pr,s.pr.l⟩,s.nx,⟨cp,s.cp.l⟩,⟨gr,s.gr.l⟩,⟨ti,s.ti.l⟩,s.qu,s.pg,fun i=>⟨sp i,(s.sp i).l⟩,⟨wi,s.wi.l⟩,s.bk,s.dc,s.tr,⟨s.lk.pat,s.lk.now,s.lk.sent,s.lk.first,fh,s.lk.fly,s.lk.wh,s.lk.wait,s.lk.co,s.lk.ci⟩,s.se,s.now,⟨al,s.al.l⟩,s.M,⟨pe,s.pe.l⟩,s.rc,s.ac,⟨nw,s.nw.l⟩⟩
structure bW.Small (s:bW):Prop where
 pr:s.pr.l.length≤1000000
 cp:s.cp.l.length≤1000000
 gr:s.gr.l.length≤1000000
 ti:s.ti.l.length≤1000000
 wi:s.wi.l.length≤1000000
 fl:s.lk.fly.length≤4398046511104
 al:s.al.l.length≤1000000
 pe:s.pe.l.length≤1000000
 nw:s.nw.l.length≤1000000
def BZ (s:bW) (v:Value) (F:Fx):Prop:=∃ pr cp gr ti sp wi fh al pe nw,v = .agg ⟨aT (s.zP pr cp gr ti sp wi fh al pe nw)⟩∧(s.zP pr cp gr ti sp wi fh al pe nw).Ok∧F=⟨fun w=>(s.zP pr cp gr ti sp wi fh al pe nw).Rows w∧(s.zP pr cp gr ti sp wi fh al pe nw).nw.At aU w,[]⟩
theorem BN (s:bW) : ∀ i,i<32→((jN s).drop (i*8)).take 8=fL (s.T i)
 | 0,_=>by kernel_rfl
 | 1,_=>by kernel_rfl
 | 2,_=>by kernel_rfl
 | 3,_=>by kernel_rfl
 | 4,_=>by kernel_rfl
 | 5,_=>by kernel_rfl
 | 6,_=>by kernel_rfl
 | 7,_=>by kernel_rfl
 | 8,_=>by kernel_rfl
 | 9,_=>by kernel_rfl
 | 10,_=>by kernel_rfl
 | 11,_=>by kernel_rfl
 | 12,_=>by kernel_rfl
 | 13,_=>by kernel_rfl
 | 14,_=>by kernel_rfl
 | 15,_=>by kernel_rfl
 | 16,_=>by kernel_rfl
 | 17,_=>by kernel_rfl
 | 18,_=>by kernel_rfl
 | 19,_=>by kernel_rfl
 | 20,_=>by kernel_rfl
 | 21,_=>by kernel_rfl
 | 22,_=>by kernel_rfl
 | 23,_=>by kernel_rfl
 | 24,_=>by kernel_rfl
 | 25,_=>by kernel_rfl
 | 26,_=>by kernel_rfl
 | 27,_=>by kernel_rfl
 | 28,_=>by kernel_rfl
 | 29,_=>by kernel_rfl
 | 30,_=>by kernel_rfl
 | 31,_=>by kernel_rfl
 | i+32,h=>absurd h (by omega)
theorem zj (s:bW) : ∀ i,i<32→(jN s)[275+i]? = some (s.sp i).v
 | 0,_=>by kernel_rfl
 | 1,_=>by kernel_rfl
 | 2,_=>by kernel_rfl
 | 3,_=>by kernel_rfl
 | 4,_=>by kernel_rfl
 | 5,_=>by kernel_rfl
 | 6,_=>by kernel_rfl
 | 7,_=>by kernel_rfl
 | 8,_=>by kernel_rfl
 | 9,_=>by kernel_rfl
 | 10,_=>by kernel_rfl
 | 11,_=>by kernel_rfl
 | 12,_=>by kernel_rfl
 | 13,_=>by kernel_rfl
 | 14,_=>by kernel_rfl
 | 15,_=>by kernel_rfl
 | 16,_=>by kernel_rfl
 | 17,_=>by kernel_rfl
 | 18,_=>by kernel_rfl
 | 19,_=>by kernel_rfl
 | 20,_=>by kernel_rfl
 | 21,_=>by kernel_rfl
 | 22,_=>by kernel_rfl
 | 23,_=>by kernel_rfl
 | 24,_=>by kernel_rfl
 | 25,_=>by kernel_rfl
 | 26,_=>by kernel_rfl
 | 27,_=>by kernel_rfl
 | 28,_=>by kernel_rfl
 | 29,_=>by kernel_rfl
 | 30,_=>by kernel_rfl
 | 31,_=>by kernel_rfl
 | i+32,h=>absurd h (by omega)
structure dJ (s:bW) (E:List Value):Prop where
 eT : ∀ i,i<32→(E.drop (i*8)).take 8=fL (s.T i)
 eS : ∀ i,i<32→E[275+i]? = some (s.sp i).v
 eD:(E.drop 256).take 11=(List.range 11).map fun i=>Value.bool (s.D i)
 eTr:(E.drop 318).take 4=rJ s.tr
 eCh:(E.drop 309).take 9=cE s.dc
 eLk:(E.drop 322).take 24=dO s.lk
 eSe:(E.drop 346).take 23=dZ s.se
 eM:(E.drop 371).take 5 = [.bool (s.M 0),.bool (s.M 1),.bool (s.M 2),.bool (s.M 3),.bool (s.M 4)]
 eDk:(E.drop 308).take 10=s.bk.v::cE s.dc
 eIq:(E.drop 371).take 6 = [.bool (s.M 0),.bool (s.M 1),.bool (s.M 2),.bool (s.M 3),.bool (s.M 4),s.pe.v]
 ePo:(E.drop 267).take 2 = [s.q.v,s.pr.v]
 ePgC:(E.drop 274).take 1 = [s.pg.v]
 eq:E[267]? = some (s.q.v)
 ePr:E[268]? = some (s.pr.v)
 eNx:E[269]? = some (.int .i64 s.nx)
 eCp:E[270]? = some (s.cp.v)
 eGr:E[271]? = some (s.gr.v)
 eTi:E[272]? = some (s.ti.v)
 eQu:E[273]? = some (s.qu.v)
 ePg:E[274]? = some (s.pg.v)
 eWi:E[307]? = some (s.wi.v)
 eBk:E[308]? = some (s.bk.v)
 eNow:E[369]? = some (.int .i64 s.now)
 eAl:E[370]? = some (s.al.v)
 ePe:E[376]? = some (s.pe.v)
 eRc:E[377]? = some (s.rc.v)
 eAc:E[378]? = some (s.ac.v)
 eNw:E[379]? = some (s.nw.v)
 eL:E.length=380
theorem Dv (s:bW):dJ s (jN s):=⟨BN s,zj s,by kernel_rfl,by kernel_rfl,by kernel_rfl,by kernel_rfl,by kernel_rfl,by kernel_rfl,by kernel_rfl,by kernel_rfl,by kernel_rfl,by kernel_rfl,by kernel_rfl,by kernel_rfl,by kernel_rfl,by kernel_rfl,by kernel_rfl,by kernel_rfl,by kernel_rfl,by kernel_rfl,by kernel_rfl,by kernel_rfl,by kernel_rfl,by kernel_rfl,by kernel_rfl,by kernel_rfl,by kernel_rfl,by kernel_rfl,oB s⟩
theorem Aj {α:Type} (f:Nat→α) (i:Nat) (x y:α):j9 (j9 f i x) i y=j9 f i y:=by
 funext j
 unfold j9
 split<;>rfl
theorem zo {α:Type} (f:Nat→α) (i:Nat) (d:α):j9 (fun j=>if j<i then f j else d) i (f i)=fun j=>if j<i+1 then f j else d:=by
 funext j
 unfold j9
 dsimp only
 by_cases h:j=i
 · subst h
   rw[if_pos rfl,if_pos (by omega)]
 · rw[if_neg h]
   by_cases h2:j<i
   · rw[if_pos h2,if_pos (by omega)]
   · rw[if_neg h2,if_neg (by omega)]
theorem yr {α:Type} {f:Nat→α} {i:Nat} {x:α} (h:f i=x):j9 f i x=f:=by
 funext j
 unfold j9
 by_cases hj:j=i
 · rw[if_pos hj,hj,h]
 · rw[if_neg hj]
theorem jR (b m k:Nat):((⟨b,0,none⟩:Addr).add m).add k=⟨b,m+k,none⟩:=by
 rw[Addr.bD rfl]
 unfold Addr.add
 split
 · rename_i h
   rw[h]
 · simp
noncomputable def toCode:Code:=Tryz.f9.body.getD .skip
def uf (br b2 b3:Nat):List SV:=[.any,.v (.pointer (some ⟨br,0,none⟩)),.v (.pointer (some ⟨b2,0,none⟩)),.v (.pointer (some ⟨b3,0,none⟩))]++List.replicate 360 .any
def dQ (br b2 b3:Nat):List SV:=[.any,.v (.pointer (some ⟨br,0,none⟩)),.v (.pointer (some ⟨b2,0,none⟩)),.v (.pointer (some ⟨b3,0,none⟩))]++(List.replicate 9 .any++([.p 0 0,.p 1 0,.p 2 0]++List.replicate 348 .any))
noncomputable def toEnd (s:bW):Exit→KT:=lz aY Tryz.f9.results.toList (eg (BZ s))
theorem B0 (s:bW) (ho:s.Ok) (hm:s.Small) (w0:World) (av:Nat→Prop) (E:List Value) (hR:dJ s E) (Z:List Value) (hZ:Z.length=376) (br b2 b3:Nat) (hs:Nat→Hd) (hsO : ∀ j,j<32→(⟨hs j,(s.sp j).l⟩:Sl Se).Ok) (pr:Hd) (hpr:pr.Ok s.pr.l.length) (cp:Hd) (hcp:cp.Ok s.cp.l.length) (gr:Hd) (hgr:gr.Ok s.gr.l.length) (ti:Hd) (hti:ti.Ok s.ti.l.length) (wi:Hd) (hwi:wi.Ok s.wi.l.length) (nw:Hd) (hnw:nw.Ok s.nw.l.length) (fl:Hd) (hfl:fl.Ok s.lk.fly.length) (al:Hd) (hal:al.Ok s.al.l.length) (pe:Hd) (hpe:pe.Ok s.pe.l.length) (O:List Value) (hO:O=aT ⟨s.T,s.D,s.q,⟨pr,s.pr.l⟩,s.nx,⟨cp,s.cp.l⟩,⟨gr,s.gr.l⟩,⟨ti,s.ti.l⟩,s.qu,s.pg,fun j=>⟨hs j,(s.sp j).l⟩,⟨wi,s.wi.l⟩,s.bk,s.dc,s.tr,⟨s.lk.pat,s.lk.now,s.lk.sent,s.lk.first,fl,s.lk.fly,s.lk.wh,s.lk.wait,s.lk.co,s.lk.ci⟩,s.se,s.now,⟨al,s.al.l⟩,s.M,⟨pe,s.pe.l⟩,s.rc,s.ac,⟨nw,s.nw.l⟩⟩) (bs:List (Nat×Nat)) (hbs:bs.length=3) :
 az Tryz.prog w0 (fun _ _=>False) av (cY 25 toCode) (dQ br b2 b3) bs [cE s.dc,dO s.lk,dZ s.se] ⟨fun w=>(((((((((((s.Rows w∧s.nw.At aU w)∧∀ j,j<32→(⟨hs j,(s.sp j).l⟩:Sl Se).At bT w)∧ai w pr.a (s.pr.l.flatMap b_))∧ai w cp.a (s.cp.l.flatMap bx))∧ai w gr.a (s.gr.l.flatMap bM))∧ai w ti.a (s.ti.l.flatMap cu))∧ai w wi.a (s.wi.l.flatMap aW))∧ai w nw.a (s.nw.l.flatMap aU))∧ai w fl.a (s.lk.fly.flatMap bX))∧ai w al.a (s.al.l.flatMap gu))∧ai w pe.a (s.pe.l.flatMap cK)),[(br,Row.c E),(b2,Row.c O),(b3,Row.c O)]⟩ (toEnd s):=by
 obtain⟨⟨c1,o1⟩,⟨c2,o2⟩,⟨c3,o3⟩,rfl⟩ : ∃ x y z,bs = [x,y,z]:=by
  rcases bs with _ | ⟨x,_ | ⟨y,_ | ⟨z,_ | ⟨u,r⟩⟩⟩⟩<;>simp at hbs
  exact⟨x,y,z,rfl⟩
 have hOl:O.length=376:=by rw[hO];exact ba _
 refine az.bZ (F':=⟨fun w=>(((((((((((s.Rows w∧s.nw.At aU w)∧∀ j,j<32→(⟨hs j,(s.sp j).l⟩:Sl Se).At bT w)∧ai w pr.a (s.pr.l.flatMap b_))∧ai w cp.a (s.cp.l.flatMap bx))∧ai w gr.a (s.gr.l.flatMap bM))∧ai w ti.a (s.ti.l.flatMap cu))∧ai w wi.a (s.wi.l.flatMap aW))∧ai w nw.a (s.nw.l.flatMap aU))∧ai w fl.a (s.lk.fly.flatMap bX))∧ai w al.a (s.al.l.flatMap gu))∧ai w pe.a (s.pe.l.flatMap cK)),[(br,Row.c E)] ++ [(b2,Row.c O)] ++ [(b3,Row.c O)]⟩) (ax.of_le ⟨List.Sublist.refl _,fun w hw=>hw⟩) ?_
 refine az.sw (j:=2) rfl ?_
 refine az.aG ae ?_
 conv=>whnf
 refine uk hOl ?_
 conv=>whnf
 refine⟨⟨fun w=>(s.zP pr cp gr ti hs wi fl al pe nw).Rows w∧(s.zP pr cp gr ti hs wi fl al pe nw).nw.At aU w,[]⟩,ax.of_le ⟨by simp,fun w hw=>?_⟩,pr,cp,gr,ti,hs,wi,fl,al,pe,nw,by rw[hO];rfl,⟨⟨ho.q,⟨hpr,ho.pr.le⟩,⟨hcp,ho.cp.le⟩,⟨hgr,ho.gr.le⟩,⟨hti,ho.ti.le⟩,ho.qu,ho.pg,hsO,⟨hwi,ho.wi.le⟩,ho.bk,hfl,ho.fl,ho.wh,ho.wl,⟨hal,ho.al.le⟩,⟨hpe,ho.pe.le⟩,ho.rc,ho.ac,⟨hnw,ho.nw.le⟩⟩,ho.gl,ho.sl⟩,rfl⟩
 obtain⟨⟨⟨⟨⟨⟨⟨⟨⟨⟨⟨hr,h0⟩,hS⟩,h1⟩,h2⟩,h3⟩,h4⟩,h5⟩,h6⟩,h7⟩,h8⟩,h9⟩:=hw
 exact⟨⟨hr.q,h1,h2,h3,h4,hr.qu,hr.pg,hS,h5,hr.bk,h7,hr.wt,h8,h9,hr.rc,hr.ac⟩,h6⟩
theorem CZ (s:bW) (ho:s.Ok) (hm:s.Small) (w0:World) (av:Nat→Prop) (E:List Value) (hR:dJ s E) (Z:List Value) (hZ:Z.length=376) (br b2 b3:Nat) (hs:Nat→Hd) (hsO : ∀ j,j<32→(⟨hs j,(s.sp j).l⟩:Sl Se).Ok) (pr:Hd) (hpr:pr.Ok s.pr.l.length) (cp:Hd) (hcp:cp.Ok s.cp.l.length) (gr:Hd) (hgr:gr.Ok s.gr.l.length) (ti:Hd) (hti:ti.Ok s.ti.l.length) (wi:Hd) (hwi:wi.Ok s.wi.l.length) (nw:Hd) (hnw:nw.Ok s.nw.l.length) (fl:Hd) (hfl:fl.Ok s.lk.fly.length) (al:Hd) (hal:al.Ok s.al.l.length) (O:List Value) (hO:O=aT ⟨s.T,s.D,s.q,⟨pr,s.pr.l⟩,s.nx,⟨cp,s.cp.l⟩,⟨gr,s.gr.l⟩,⟨ti,s.ti.l⟩,s.qu,s.pg,fun j=>⟨hs j,(s.sp j).l⟩,⟨wi,s.wi.l⟩,s.bk,s.dc,s.tr,⟨s.lk.pat,s.lk.now,s.lk.sent,s.lk.first,fl,s.lk.fly,s.lk.wh,s.lk.wait,s.lk.co,s.lk.ci⟩,s.se,s.now,⟨al,s.al.l⟩,fun _=>false,default,s.rc,s.ac,⟨nw,s.nw.l⟩⟩) (bs:List (Nat×Nat)) (hbs:bs.length=3) :
 az Tryz.prog w0 (fun _ _=>False) av (cY 22 toCode) (dQ br b2 b3) bs [cE s.dc,dO s.lk,dZ s.se] ⟨fun w=>((((((((((s.Rows w∧s.nw.At aU w)∧∀ j,j<32→(⟨hs j,(s.sp j).l⟩:Sl Se).At bT w)∧ai w pr.a (s.pr.l.flatMap b_))∧ai w cp.a (s.cp.l.flatMap bx))∧ai w gr.a (s.gr.l.flatMap bM))∧ai w ti.a (s.ti.l.flatMap cu))∧ai w wi.a (s.wi.l.flatMap aW))∧ai w nw.a (s.nw.l.flatMap aU))∧ai w fl.a (s.lk.fly.flatMap bX))∧ai w al.a (s.al.l.flatMap gu)),[(br,Row.c E),(b2,Row.c Z),(b3,Row.c O)]⟩ (toEnd s):=by
 obtain⟨⟨c1,o1⟩,⟨c2,o2⟩,⟨c3,o3⟩,rfl⟩ : ∃ x y z,bs = [x,y,z]:=by
  rcases bs with _ | ⟨x,_ | ⟨y,_ | ⟨z,_ | ⟨u,r⟩⟩⟩⟩<;>simp at hbs
  exact⟨x,y,z,rfl⟩
 refine az.cr ae 3 (ι:=Hd×List Value) (fun x=>(x.1).Ok s.pe.l.length∧x.2=aT ⟨s.T,s.D,s.q,⟨pr,s.pr.l⟩,s.nx,⟨cp,s.cp.l⟩,⟨gr,s.gr.l⟩,⟨ti,s.ti.l⟩,s.qu,s.pg,fun j=>⟨hs j,(s.sp j).l⟩,⟨wi,s.wi.l⟩,s.bk,s.dc,s.tr,⟨s.lk.pat,s.lk.now,s.lk.sent,s.lk.first,fl,s.lk.fly,s.lk.wh,s.lk.wait,s.lk.co,s.lk.ci⟩,s.se,s.now,⟨al,s.al.l⟩,s.M,⟨x.1,s.pe.l⟩,s.rc,s.ac,⟨nw,s.nw.l⟩⟩) (fun x=>dQ br b2 b3) (fun x=>[cE s.dc,dO s.lk,dZ s.se]) (fun x=>⟨fun w=>(((((((((((s.Rows w∧s.nw.At aU w)∧∀ j,j<32→(⟨hs j,(s.sp j).l⟩:Sl Se).At bT w)∧ai w pr.a (s.pr.l.flatMap b_))∧ai w cp.a (s.cp.l.flatMap bx))∧ai w gr.a (s.gr.l.flatMap bM))∧ai w ti.a (s.ti.l.flatMap cu))∧ai w wi.a (s.wi.l.flatMap aW))∧ai w nw.a (s.nw.l.flatMap aU))∧ai w fl.a (s.lk.fly.flatMap bX))∧ai w al.a (s.al.l.flatMap gu))∧ai w x.1.a (s.pe.l.flatMap cK)),[(br,Row.c E),(b2,Row.c x.2),(b3,Row.c x.2)]⟩) ?_ ?_
 · conv=>whnf
   repeat (refine aa.of ?_;conv=>whnf)
   refine ar.aj (ak.aQ ae rfl rfl (ad:=⟨br,0,none⟩) (k:=371) (L:=E) (m:=[.bool (s.M 0),.bool (s.M 1),.bool (s.M 2),.bool (s.M 3),.bool (s.M 4)]) (aK.row (List.Mem.head _)) rfl hR.eM rfl ?_)
   conv=>whnf
   repeat (refine aa.of ?_;conv=>whnf)
   have hOl:O.length=376:=by rw[hO];exact ba _
   refine aP.bZ (F':=⟨fun w=>((((((((((s.Rows w∧s.nw.At aU w)∧∀ j,j<32→(⟨hs j,(s.sp j).l⟩:Sl Se).At bT w)∧ai w pr.a (s.pr.l.flatMap b_))∧ai w cp.a (s.cp.l.flatMap bx))∧ai w gr.a (s.gr.l.flatMap bM))∧ai w ti.a (s.ti.l.flatMap cu))∧ai w wi.a (s.wi.l.flatMap aW))∧ai w nw.a (s.nw.l.flatMap aU))∧ai w fl.a (s.lk.fly.flatMap bX))∧ai w al.a (s.al.l.flatMap gu)),[(br,Row.c E),(b2,Row.c Z)] ++ [(b3,Row.c O)] ++ []⟩) (ax.of_le ⟨List.Sublist.refl _,fun w hw=>hw⟩) ?_
   refine aP.aX ae rfl (b:=b3) (k:=367) (X:=aT ⟨s.T,s.D,s.q,⟨pr,s.pr.l⟩,s.nx,⟨cp,s.cp.l⟩,⟨gr,s.gr.l⟩,⟨ti,s.ti.l⟩,s.qu,s.pg,fun j=>⟨hs j,(s.sp j).l⟩,⟨wi,s.wi.l⟩,s.bk,s.dc,s.tr,⟨s.lk.pat,s.lk.now,s.lk.sent,s.lk.first,fl,s.lk.fly,s.lk.wh,s.lk.wait,s.lk.co,s.lk.ci⟩,s.se,s.now,⟨al,s.al.l⟩,s.M,default,s.rc,s.ac,⟨nw,s.nw.l⟩⟩) rfl rfl (List.all_eq_true.1 (by rfl)) (by rw[hOl];decide) (by rw[hO];kernel_rfl) ?_
   clear hO hOl
   obtain⟨O,hO⟩ : ∃ O,O=aT ⟨s.T,s.D,s.q,⟨pr,s.pr.l⟩,s.nx,⟨cp,s.cp.l⟩,⟨gr,s.gr.l⟩,⟨ti,s.ti.l⟩,s.qu,s.pg,fun j=>⟨hs j,(s.sp j).l⟩,⟨wi,s.wi.l⟩,s.bk,s.dc,s.tr,⟨s.lk.pat,s.lk.now,s.lk.sent,s.lk.first,fl,s.lk.fly,s.lk.wh,s.lk.wait,s.lk.co,s.lk.ci⟩,s.se,s.now,⟨al,s.al.l⟩,s.M,default,s.rc,s.ac,⟨nw,s.nw.l⟩⟩:=⟨_,rfl⟩
   rw[← hO]
   conv=>whnf
   repeat (refine aa.of ?_;conv=>whnf)
   refine ar.aj (ak.aH ae rfl rfl (ad:=⟨br,0,none⟩) (k:=376) (L:=E) (v:=s.pe.h.v s.pe.l.length) (aK.row (List.Mem.head _)) (fun _=>rfl) hR.ePe ?_)
   conv=>whnf
   repeat (refine aa.of ?_;conv=>whnf)
   obtain⟨hho,hle⟩:s.pe.h.Ok s.pe.l.length∧s.pe.l.length≤1000000:=⟨ho.pe.h,hm.pe⟩
   have hrow : ∀ w,((((((((((s.Rows w∧s.nw.At aU w)∧∀ j,j<32→(⟨hs j,(s.sp j).l⟩:Sl Se).At bT w)∧ai w pr.a (s.pr.l.flatMap b_))∧ai w cp.a (s.cp.l.flatMap bx))∧ai w gr.a (s.gr.l.flatMap bM))∧ai w ti.a (s.ti.l.flatMap cu))∧ai w wi.a (s.wi.l.flatMap aW))∧ai w nw.a (s.nw.l.flatMap aU))∧ai w fl.a (s.lk.fly.flatMap bX))∧ai w al.a (s.al.l.flatMap gu))→ai w s.pe.h.a (s.pe.l.flatMap cK):=fun w hw=>by
    have hw:=hw.1.1.1.1.1.1.1.1.1
    exact hw.1.pe
   refine az.kN ae (ι:=Nat×Option Addr×Nat×List Value×List Value) ([18]++List.range' 346 17)
    (fun x=>x.1≤s.pe.l.length∧cZ 4 x.1 x.2.1 x.2.2.1 x.2.2.2.1 ((s.pe.l.take x.1).flatMap cK)∧x.2.2.2.2=aT ⟨s.T,s.D,s.q,⟨pr,s.pr.l⟩,s.nx,⟨cp,s.cp.l⟩,⟨gr,s.gr.l⟩,⟨ti,s.ti.l⟩,s.qu,s.pg,fun j=>⟨hs j,(s.sp j).l⟩,⟨wi,s.wi.l⟩,s.bk,s.dc,s.tr,⟨s.lk.pat,s.lk.now,s.lk.sent,s.lk.first,fl,s.lk.fly,s.lk.wh,s.lk.wait,s.lk.co,s.lk.ci⟩,s.se,s.now,⟨al,s.al.l⟩,s.M,⟨⟨x.2.1,x.2.2.1⟩,s.pe.l.take x.1⟩,s.rc,s.ac,⟨nw,s.nw.l⟩⟩)
    (fun x=>[(346,.v (.int .i64 (x.1:Int)))]) (fun x=>⟨fun w=>((((((((((s.Rows w∧s.nw.At aU w)∧∀ j,j<32→(⟨hs j,(s.sp j).l⟩:Sl Se).At bT w)∧ai w pr.a (s.pr.l.flatMap b_))∧ai w cp.a (s.cp.l.flatMap bx))∧ai w gr.a (s.gr.l.flatMap bM))∧ai w ti.a (s.ti.l.flatMap cu))∧ai w wi.a (s.wi.l.flatMap aW))∧ai w nw.a (s.nw.l.flatMap aU))∧ai w fl.a (s.lk.fly.flatMap bX))∧ai w al.a (s.al.l.flatMap gu)),[(br,Row.c E),(b2,Row.c Z),(b3,Row.c x.2.2.2.2)]++bo x.2.1 x.2.2.2.1⟩)
    (fun x=>s.pe.l.length - x.1) (0,none,0,[],O) ⟨Nat.zero_le _,cZ.nil 4,hO⟩ ?_ (ax.of_le ⟨List.Sublist.refl _,fun w hw=>hw⟩) fun x hx=>?_
   · conv=>whnf
     repeat (first | exact au.nil | refine au.any ?_ | refine au.cons ?_)
   clear hO
   obtain⟨i,ape,cpe,C,O⟩:=x
   obtain⟨hk,hOw,hO⟩:=hx
   dsimp only at hk hOw hO ⊢
   have hOl:O.length=376:=by rw[hO];exact ba _
   have hOs:O[372]? = some (.slice ape i cpe):=by
    have h1:(aT ⟨s.T,s.D,s.q,⟨pr,s.pr.l⟩,s.nx,⟨cp,s.cp.l⟩,⟨gr,s.gr.l⟩,⟨ti,s.ti.l⟩,s.qu,s.pg,fun j=>⟨hs j,(s.sp j).l⟩,⟨wi,s.wi.l⟩,s.bk,s.dc,s.tr,⟨s.lk.pat,s.lk.now,s.lk.sent,s.lk.first,fl,s.lk.fly,s.lk.wh,s.lk.wait,s.lk.co,s.lk.ci⟩,s.se,s.now,⟨al,s.al.l⟩,s.M,⟨⟨ape,cpe⟩,s.pe.l.take i⟩,s.rc,s.ac,⟨nw,s.nw.l⟩⟩)[372]? = some (⟨⟨ape,cpe⟩,s.pe.l.take i⟩:Sl qs).v:=by kernel_rfl
    rw[hO,h1]
    unfold Sl.v
    dsimp only
    rw[List.length_take,Nat.min_eq_left hk]
   conv=>whnf
   repeat (refine aa.of ?_;conv=>whnf)
   refine bF.split (fun hlt2=>?_) (fun hlt2=>?_)
   · have hk':i<s.pe.l.length:=by
      simp only[ao,decide_eq_true_eq] at hlt2
      omega
     repeat' (first
      | (refine cj.row rfl ?_;conv=>whnf)
      | (refine az.draw ae mixed rfl rfl ?_;conv=>whnf)
      | (refine ak.aH ae rfl rfl (ad:=⟨b3,0,none⟩) (k:=372) (L:=O) (v:=.slice ape i cpe) (aK.row (List.Mem.tail _ (List.Mem.tail _ (List.Mem.head _)))) (fun _=>rfl) hOs ?_;conv=>whnf)
      | (refine ak.aH ae rfl rfl (ad:=⟨br,0,none⟩) (k:=376) (L:=E) (v:=s.pe.h.v s.pe.l.length) (aK.row (List.Mem.head _)) (fun _=>rfl) hR.ePe ?_;conv=>whnf)
      | (refine ak.index ae rfl rfl rfl (by omega) (by omega) hho.nil fun ad had=>?_;conv=>whnf)
      | (refine ak.aQ ae rfl rfl (ad:=ad) (k:=i*4) (L:=s.pe.l.flatMap cK) (m:=cK s.pe.l[i]) (.fact fun w hw=>had ▸ hrow w hw) (by simp) (a8 (cf:=cK) (z:=4) (fun _=>rfl) hk') rfl ?_;conv=>whnf)
      | (refine ar.build ae rfl rfl rfl [.agg ⟨cK s.pe.l[i]⟩] rfl rfl (by simp[Value.cells,cK]) (by decide) fun b5=>?_;conv=>whnf)
      | (refine ar.bZ (F':=⟨fun w=>((((((((((s.Rows w∧s.nw.At aU w)∧∀ j,j<32→(⟨hs j,(s.sp j).l⟩:Sl Se).At bT w)∧ai w pr.a (s.pr.l.flatMap b_))∧ai w cp.a (s.cp.l.flatMap bx))∧ai w gr.a (s.gr.l.flatMap bM))∧ai w ti.a (s.ti.l.flatMap cu))∧ai w wi.a (s.wi.l.flatMap aW))∧ai w nw.a (s.nw.l.flatMap aU))∧ai w fl.a (s.lk.fly.flatMap bX))∧ai w al.a (s.al.l.flatMap gu)),[(br,Row.c E),(b2,Row.c Z),(b3,Row.c O)]++bo ape C ++ [(b5,Row.c (cK s.pe.l[i]))]⟩) (ax.of_le ⟨by simp[Value.cells],fun w hw=>hw⟩) ?_;refine ar.append ae rfl rfl rfl rfl rfl rfl (r1:=[(br,Row.c E),(b2,Row.c Z),(b3,Row.c O)]) (r2:=[(b5,Row.c (cK s.pe.l[i]))]) (M:=cK s.pe.l[i]) hOw (aK.row (by simp)) rfl (List.all_eq_true.1 (show(cK s.pe.l[i]).all a7=true from rfl)) (by omega) (by simp;omega) fun a' c' C' hO'=>?_;conv=>whnf)
      | (refine aP.bZ (F':=⟨fun w=>((((((((((s.Rows w∧s.nw.At aU w)∧∀ j,j<32→(⟨hs j,(s.sp j).l⟩:Sl Se).At bT w)∧ai w pr.a (s.pr.l.flatMap b_))∧ai w cp.a (s.cp.l.flatMap bx))∧ai w gr.a (s.gr.l.flatMap bM))∧ai w ti.a (s.ti.l.flatMap cu))∧ai w wi.a (s.wi.l.flatMap aW))∧ai w nw.a (s.nw.l.flatMap aU))∧ai w fl.a (s.lk.fly.flatMap bX))∧ai w al.a (s.al.l.flatMap gu)),[(br,Row.c E),(b2,Row.c Z)] ++ [(b3,Row.c O)]++([]++bo a' C' ++ [(b5,Row.c (cK s.pe.l[i]))])⟩) (ax.of_le ⟨by simp,fun w hw=>hw⟩) ?_;refine aP.cO ae rfl (b:=b3) (k:=372) rfl rfl (by simp[Value.cells,a7]) (by rw[hOl];decide) ?_;conv=>whnf))
     have hv:(⟨⟨a',c'⟩,s.pe.l.take (i+1)⟩:Sl qs).v = .slice a' (i+1) c':=by
      unfold Sl.v
      dsimp only
      rw[List.length_take,Nat.min_eq_left hk']
     have hlay:laid O 372 [.slice a' (i+1) c']=aT ⟨s.T,s.D,s.q,⟨pr,s.pr.l⟩,s.nx,⟨cp,s.cp.l⟩,⟨gr,s.gr.l⟩,⟨ti,s.ti.l⟩,s.qu,s.pg,fun j=>⟨hs j,(s.sp j).l⟩,⟨wi,s.wi.l⟩,s.bk,s.dc,s.tr,⟨s.lk.pat,s.lk.now,s.lk.sent,s.lk.first,fl,s.lk.fly,s.lk.wh,s.lk.wait,s.lk.co,s.lk.ci⟩,s.se,s.now,⟨al,s.al.l⟩,s.M,⟨⟨a',c'⟩,s.pe.l.take (i+1)⟩,s.rc,s.ac,⟨nw,s.nw.l⟩⟩:=by
      rw[← hv,hO]
      kernel_rfl
     refine⟨(i+1,a',c',C',aT ⟨s.T,s.D,s.q,⟨pr,s.pr.l⟩,s.nx,⟨cp,s.cp.l⟩,⟨gr,s.gr.l⟩,⟨ti,s.ti.l⟩,s.qu,s.pg,fun j=>⟨hs j,(s.sp j).l⟩,⟨wi,s.wi.l⟩,s.bk,s.dc,s.tr,⟨s.lk.pat,s.lk.now,s.lk.sent,s.lk.first,fl,s.lk.fly,s.lk.wh,s.lk.wait,s.lk.co,s.lk.ci⟩,s.se,s.now,⟨al,s.al.l⟩,s.M,⟨⟨a',c'⟩,s.pe.l.take (i+1)⟩,s.rc,s.ac,⟨nw,s.nw.l⟩⟩),⟨⟨hk',by dsimp only;rw[fg hk'];exact hO',rfl⟩,by dsimp only;omega⟩,?_,?_,?_⟩
     · conv=>whnf
       refine⟨?_,rfl⟩
       repeat (first | exact au.nil | refine au.any ?_ | refine au.cons ?_ | refine au.eq (by rw[wrap_i64 (by omega)];rfl) ?_)
     · conv=>whnf
       exact⟨⟨rfl,rfl⟩,⟨rfl,rfl⟩,⟨rfl,rfl⟩,trivial⟩
     · rw[← hlay]
       exact ax.of_le ⟨(List.Sublist.refl [_,_,_]).append (List.sublist_append_left _ _),fun w hw=>hw⟩
   · have hke:i=s.pe.l.length:=by
      simp only[ao,decide_eq_false_iff_not] at hlt2
      omega
     subst hke
     rw[List.take_length] at hOw hO
     have hpeO:(⟨ape,cpe⟩:Hd).Ok s.pe.l.length:=⟨hOw.cJ,hOw.fit⟩
     have hEn:ax ⟨fun w=>((((((((((s.Rows w∧s.nw.At aU w)∧∀ j,j<32→(⟨hs j,(s.sp j).l⟩:Sl Se).At bT w)∧ai w pr.a (s.pr.l.flatMap b_))∧ai w cp.a (s.cp.l.flatMap bx))∧ai w gr.a (s.gr.l.flatMap bM))∧ai w ti.a (s.ti.l.flatMap cu))∧ai w wi.a (s.wi.l.flatMap aW))∧ai w nw.a (s.nw.l.flatMap aU))∧ai w fl.a (s.lk.fly.flatMap bX))∧ai w al.a (s.al.l.flatMap gu)),[(br,Row.c E),(b2,Row.c Z),(b3,Row.c O)]++bo ape C⟩ ⟨fun w=>(((((((((((s.Rows w∧s.nw.At aU w)∧∀ j,j<32→(⟨hs j,(s.sp j).l⟩:Sl Se).At bT w)∧ai w pr.a (s.pr.l.flatMap b_))∧ai w cp.a (s.cp.l.flatMap bx))∧ai w gr.a (s.gr.l.flatMap bM))∧ai w ti.a (s.ti.l.flatMap cu))∧ai w wi.a (s.wi.l.flatMap aW))∧ai w nw.a (s.nw.l.flatMap aU))∧ai w fl.a (s.lk.fly.flatMap bX))∧ai w al.a (s.al.l.flatMap gu))∧ai w ape (s.pe.l.flatMap cK)),[(br,Row.c E),(b2,Row.c Z),(b3,Row.c O)]⟩:=
      ax.trans (ax.of_le (F':=⟨fun w=>((((((((((s.Rows w∧s.nw.At aU w)∧∀ j,j<32→(⟨hs j,(s.sp j).l⟩:Sl Se).At bT w)∧ai w pr.a (s.pr.l.flatMap b_))∧ai w cp.a (s.cp.l.flatMap bx))∧ai w gr.a (s.gr.l.flatMap bM))∧ai w ti.a (s.ti.l.flatMap cu))∧ai w wi.a (s.wi.l.flatMap aW))∧ai w nw.a (s.nw.l.flatMap aU))∧ai w fl.a (s.lk.fly.flatMap bX))∧ai w al.a (s.al.l.flatMap gu)),[(br,Row.c E),(b2,Row.c Z),(b3,Row.c O)]++bo ape C ++ []⟩) ⟨by simp,fun w hw=>hw⟩) (ax.trans (hOw.share (r1:=[(br,Row.c E),(b2,Row.c Z),(b3,Row.c O)]) (r2:=[])) (ax.of_le ⟨by simp,fun w hw=>hw⟩))
     clear hOs hlt2 hk hrow hho hle hOw hOl
     conv=>whnf
     repeat (refine aa.of ?_;conv=>whnf)
     first | refine ar.bZ hEn ?_
     clear hEn
     have hOl:O.length=376:=by rw[hO];exact ba _
     refine ar.aj (ak.aQ ae rfl rfl (ad:=⟨b3,0,none⟩) (k:=0) (L:=O) (m:=O) (aK.row (List.Mem.tail _ (List.Mem.tail _ (List.Mem.head _)))) rfl (by rw[List.drop_zero];exact List.take_of_length_le (by rw[hOl];exact Nat.le_refl _)) hOl ?_)
     conv=>whnf
     repeat (refine aa.of ?_;conv=>whnf)
     refine aP.bZ (F':=⟨fun w=>(((((((((((s.Rows w∧s.nw.At aU w)∧∀ j,j<32→(⟨hs j,(s.sp j).l⟩:Sl Se).At bT w)∧ai w pr.a (s.pr.l.flatMap b_))∧ai w cp.a (s.cp.l.flatMap bx))∧ai w gr.a (s.gr.l.flatMap bM))∧ai w ti.a (s.ti.l.flatMap cu))∧ai w wi.a (s.wi.l.flatMap aW))∧ai w nw.a (s.nw.l.flatMap aU))∧ai w fl.a (s.lk.fly.flatMap bX))∧ai w al.a (s.al.l.flatMap gu))∧ai w ape (s.pe.l.flatMap cK)),[(br,Row.c E)] ++ [(b2,Row.c Z)] ++ [(b3,Row.c O)]⟩) (ax.of_le ⟨List.Sublist.refl _,fun w hw=>hw⟩) ?_
     refine aP.aX ae rfl (b:=b2) (k:=0) (X:=O) rfl (by exact hOl) (by rw[hO];exact fT _) (by rw[hZ];exact Nat.le_refl _) (bP (by rw[hZ];exact hOl)) ?_
     conv=>whnf
     repeat (refine aa.of ?_;conv=>whnf)
     first
      | refine⟨⟨⟨ape,cpe⟩,O⟩,⟨hpeO,hO⟩,[0,1,2],⟨by decide,by simp,rfl⟩,?_,ax.refl _⟩
     repeat (first | exact au.nil | refine au.any ?_ | refine au.cons ?_)
 · intro x hx bs' hbs'
   obtain⟨pe,O⟩:=x
   obtain⟨hpe,hO⟩:=hx
   rw[aS]
   exact B0 s ho hm w0 av E hR Z hZ br b2 b3 hs hsO pr hpr cp hcp gr hgr ti hti wi hwi nw hnw fl hfl al hal pe hpe O hO bs' hbs'
theorem B4 (s:bW) (ho:s.Ok) (hm:s.Small) (w0:World) (av:Nat→Prop) (E:List Value) (hR:dJ s E) (Z:List Value) (hZ:Z.length=376) (br b2 b3:Nat) (hs:Nat→Hd) (hsO : ∀ j,j<32→(⟨hs j,(s.sp j).l⟩:Sl Se).Ok) (pr:Hd) (hpr:pr.Ok s.pr.l.length) (cp:Hd) (hcp:cp.Ok s.cp.l.length) (gr:Hd) (hgr:gr.Ok s.gr.l.length) (ti:Hd) (hti:ti.Ok s.ti.l.length) (wi:Hd) (hwi:wi.Ok s.wi.l.length) (nw:Hd) (hnw:nw.Ok s.nw.l.length) (fl:Hd) (hfl:fl.Ok s.lk.fly.length) (O:List Value) (hO:O=aT ⟨s.T,s.D,s.q,⟨pr,s.pr.l⟩,s.nx,⟨cp,s.cp.l⟩,⟨gr,s.gr.l⟩,⟨ti,s.ti.l⟩,s.qu,s.pg,fun j=>⟨hs j,(s.sp j).l⟩,⟨wi,s.wi.l⟩,s.bk,s.dc,s.tr,⟨s.lk.pat,s.lk.now,s.lk.sent,s.lk.first,fl,s.lk.fly,s.lk.wh,s.lk.wait,s.lk.co,s.lk.ci⟩,s.se,s.now,default,fun _=>false,default,s.rc,s.ac,⟨nw,s.nw.l⟩⟩) (bs:List (Nat×Nat)) (hbs:bs.length=3) :
 az Tryz.prog w0 (fun _ _=>False) av (cY 21 toCode) (dQ br b2 b3) bs [cE s.dc,dO s.lk,dZ s.se] ⟨fun w=>(((((((((s.Rows w∧s.nw.At aU w)∧∀ j,j<32→(⟨hs j,(s.sp j).l⟩:Sl Se).At bT w)∧ai w pr.a (s.pr.l.flatMap b_))∧ai w cp.a (s.cp.l.flatMap bx))∧ai w gr.a (s.gr.l.flatMap bM))∧ai w ti.a (s.ti.l.flatMap cu))∧ai w wi.a (s.wi.l.flatMap aW))∧ai w nw.a (s.nw.l.flatMap aU))∧ai w fl.a (s.lk.fly.flatMap bX)),[(br,Row.c E),(b2,Row.c Z),(b3,Row.c O)]⟩ (toEnd s):=by
 obtain⟨⟨c1,o1⟩,⟨c2,o2⟩,⟨c3,o3⟩,rfl⟩ : ∃ x y z,bs = [x,y,z]:=by
  rcases bs with _ | ⟨x,_ | ⟨y,_ | ⟨z,_ | ⟨u,r⟩⟩⟩⟩<;>simp at hbs
  exact⟨x,y,z,rfl⟩
 refine az.cr ae 1 (ι:=Hd×List Value) (fun x=>(x.1).Ok s.al.l.length∧x.2=aT ⟨s.T,s.D,s.q,⟨pr,s.pr.l⟩,s.nx,⟨cp,s.cp.l⟩,⟨gr,s.gr.l⟩,⟨ti,s.ti.l⟩,s.qu,s.pg,fun j=>⟨hs j,(s.sp j).l⟩,⟨wi,s.wi.l⟩,s.bk,s.dc,s.tr,⟨s.lk.pat,s.lk.now,s.lk.sent,s.lk.first,fl,s.lk.fly,s.lk.wh,s.lk.wait,s.lk.co,s.lk.ci⟩,s.se,s.now,⟨x.1,s.al.l⟩,fun _=>false,default,s.rc,s.ac,⟨nw,s.nw.l⟩⟩) (fun x=>dQ br b2 b3) (fun x=>[cE s.dc,dO s.lk,dZ s.se]) (fun x=>⟨fun w=>((((((((((s.Rows w∧s.nw.At aU w)∧∀ j,j<32→(⟨hs j,(s.sp j).l⟩:Sl Se).At bT w)∧ai w pr.a (s.pr.l.flatMap b_))∧ai w cp.a (s.cp.l.flatMap bx))∧ai w gr.a (s.gr.l.flatMap bM))∧ai w ti.a (s.ti.l.flatMap cu))∧ai w wi.a (s.wi.l.flatMap aW))∧ai w nw.a (s.nw.l.flatMap aU))∧ai w fl.a (s.lk.fly.flatMap bX))∧ai w x.1.a (s.al.l.flatMap gu)),[(br,Row.c E),(b2,Row.c Z),(b3,Row.c x.2)]⟩) ?_ ?_
 · conv=>whnf
   repeat (refine aa.of ?_;conv=>whnf)
   refine ar.aj (ak.aH ae rfl rfl (ad:=⟨br,0,none⟩) (k:=370) (L:=E) (v:=s.al.h.v s.al.l.length) (aK.row (List.Mem.head _)) (fun _=>rfl) hR.eAl ?_)
   conv=>whnf
   repeat (refine aa.of ?_;conv=>whnf)
   obtain⟨hho,hle⟩:s.al.h.Ok s.al.l.length∧s.al.l.length≤1000000:=⟨ho.al.h,hm.al⟩
   have hrow : ∀ w,(((((((((s.Rows w∧s.nw.At aU w)∧∀ j,j<32→(⟨hs j,(s.sp j).l⟩:Sl Se).At bT w)∧ai w pr.a (s.pr.l.flatMap b_))∧ai w cp.a (s.cp.l.flatMap bx))∧ai w gr.a (s.gr.l.flatMap bM))∧ai w ti.a (s.ti.l.flatMap cu))∧ai w wi.a (s.wi.l.flatMap aW))∧ai w nw.a (s.nw.l.flatMap aU))∧ai w fl.a (s.lk.fly.flatMap bX))→ai w s.al.h.a (s.al.l.flatMap gu):=fun w hw=>by
    have hw:=hw.1.1.1.1.1.1.1.1
    exact hw.1.al
   refine az.kN ae (ι:=Nat×Option Addr×Nat×List Value×List Value) ([17]++List.range' 320 18)
    (fun x=>x.1≤s.al.l.length∧cZ 2 x.1 x.2.1 x.2.2.1 x.2.2.2.1 ((s.al.l.take x.1).flatMap gu)∧x.2.2.2.2=aT ⟨s.T,s.D,s.q,⟨pr,s.pr.l⟩,s.nx,⟨cp,s.cp.l⟩,⟨gr,s.gr.l⟩,⟨ti,s.ti.l⟩,s.qu,s.pg,fun j=>⟨hs j,(s.sp j).l⟩,⟨wi,s.wi.l⟩,s.bk,s.dc,s.tr,⟨s.lk.pat,s.lk.now,s.lk.sent,s.lk.first,fl,s.lk.fly,s.lk.wh,s.lk.wait,s.lk.co,s.lk.ci⟩,s.se,s.now,⟨⟨x.2.1,x.2.2.1⟩,s.al.l.take x.1⟩,fun _=>false,default,s.rc,s.ac,⟨nw,s.nw.l⟩⟩)
    (fun x=>[(320,.v (.int .i64 (x.1:Int)))]) (fun x=>⟨fun w=>(((((((((s.Rows w∧s.nw.At aU w)∧∀ j,j<32→(⟨hs j,(s.sp j).l⟩:Sl Se).At bT w)∧ai w pr.a (s.pr.l.flatMap b_))∧ai w cp.a (s.cp.l.flatMap bx))∧ai w gr.a (s.gr.l.flatMap bM))∧ai w ti.a (s.ti.l.flatMap cu))∧ai w wi.a (s.wi.l.flatMap aW))∧ai w nw.a (s.nw.l.flatMap aU))∧ai w fl.a (s.lk.fly.flatMap bX)),[(br,Row.c E),(b2,Row.c Z),(b3,Row.c x.2.2.2.2)]++bo x.2.1 x.2.2.2.1⟩)
    (fun x=>s.al.l.length - x.1) (0,none,0,[],O) ⟨Nat.zero_le _,cZ.nil 2,hO⟩ ?_ (ax.of_le ⟨List.Sublist.refl _,fun w hw=>hw⟩) fun x hx=>?_
   · conv=>whnf
     repeat (first | exact au.nil | refine au.any ?_ | refine au.cons ?_)
   clear hO
   obtain⟨i,aal,cal,C,O⟩:=x
   obtain⟨hk,hOw,hO⟩:=hx
   dsimp only at hk hOw hO ⊢
   have hOl:O.length=376:=by rw[hO];exact ba _
   have hOs:O[366]? = some (.slice aal i cal):=by
    have h1:(aT ⟨s.T,s.D,s.q,⟨pr,s.pr.l⟩,s.nx,⟨cp,s.cp.l⟩,⟨gr,s.gr.l⟩,⟨ti,s.ti.l⟩,s.qu,s.pg,fun j=>⟨hs j,(s.sp j).l⟩,⟨wi,s.wi.l⟩,s.bk,s.dc,s.tr,⟨s.lk.pat,s.lk.now,s.lk.sent,s.lk.first,fl,s.lk.fly,s.lk.wh,s.lk.wait,s.lk.co,s.lk.ci⟩,s.se,s.now,⟨⟨aal,cal⟩,s.al.l.take i⟩,fun _=>false,default,s.rc,s.ac,⟨nw,s.nw.l⟩⟩)[366]? = some (⟨⟨aal,cal⟩,s.al.l.take i⟩:Sl Al).v:=by kernel_rfl
    rw[hO,h1]
    unfold Sl.v
    dsimp only
    rw[List.length_take,Nat.min_eq_left hk]
   conv=>whnf
   repeat (refine aa.of ?_;conv=>whnf)
   refine bF.split (fun hlt2=>?_) (fun hlt2=>?_)
   · have hk':i<s.al.l.length:=by
      simp only[ao,decide_eq_true_eq] at hlt2
      omega
     repeat' (first
      | (refine cj.row rfl ?_;conv=>whnf)
      | (refine az.draw ae mixed rfl rfl ?_;conv=>whnf)
      | (refine ak.aH ae rfl rfl (ad:=⟨b3,0,none⟩) (k:=366) (L:=O) (v:=.slice aal i cal) (aK.row (List.Mem.tail _ (List.Mem.tail _ (List.Mem.head _)))) (fun _=>rfl) hOs ?_;conv=>whnf)
      | (refine ak.aH ae rfl rfl (ad:=⟨br,0,none⟩) (k:=370) (L:=E) (v:=s.al.h.v s.al.l.length) (aK.row (List.Mem.head _)) (fun _=>rfl) hR.eAl ?_;conv=>whnf)
      | (refine ak.index ae rfl rfl rfl (by omega) (by omega) hho.nil fun ad had=>?_;conv=>whnf)
      | (refine ak.aQ ae rfl rfl (ad:=ad) (k:=i*2) (L:=s.al.l.flatMap gu) (m:=gu s.al.l[i]) (.fact fun w hw=>had ▸ hrow w hw) (by simp) (a8 (cf:=gu) (z:=2) (fun _=>rfl) hk') rfl ?_;conv=>whnf)
      | (refine ar.build ae rfl rfl rfl [.agg ⟨gu s.al.l[i]⟩] rfl rfl (by simp[Value.cells,gu]) (by decide) fun b5=>?_;conv=>whnf)
      | (refine ar.bZ (F':=⟨fun w=>(((((((((s.Rows w∧s.nw.At aU w)∧∀ j,j<32→(⟨hs j,(s.sp j).l⟩:Sl Se).At bT w)∧ai w pr.a (s.pr.l.flatMap b_))∧ai w cp.a (s.cp.l.flatMap bx))∧ai w gr.a (s.gr.l.flatMap bM))∧ai w ti.a (s.ti.l.flatMap cu))∧ai w wi.a (s.wi.l.flatMap aW))∧ai w nw.a (s.nw.l.flatMap aU))∧ai w fl.a (s.lk.fly.flatMap bX)),[(br,Row.c E),(b2,Row.c Z),(b3,Row.c O)]++bo aal C ++ [(b5,Row.c (gu s.al.l[i]))]⟩) (ax.of_le ⟨by simp[Value.cells],fun w hw=>hw⟩) ?_;refine ar.append ae rfl rfl rfl rfl rfl rfl (r1:=[(br,Row.c E),(b2,Row.c Z),(b3,Row.c O)]) (r2:=[(b5,Row.c (gu s.al.l[i]))]) (M:=gu s.al.l[i]) hOw (aK.row (by simp)) rfl (List.all_eq_true.1 (show(gu s.al.l[i]).all a7=true from rfl)) (by omega) (by simp;omega) fun a' c' C' hO'=>?_;conv=>whnf)
      | (refine aP.bZ (F':=⟨fun w=>(((((((((s.Rows w∧s.nw.At aU w)∧∀ j,j<32→(⟨hs j,(s.sp j).l⟩:Sl Se).At bT w)∧ai w pr.a (s.pr.l.flatMap b_))∧ai w cp.a (s.cp.l.flatMap bx))∧ai w gr.a (s.gr.l.flatMap bM))∧ai w ti.a (s.ti.l.flatMap cu))∧ai w wi.a (s.wi.l.flatMap aW))∧ai w nw.a (s.nw.l.flatMap aU))∧ai w fl.a (s.lk.fly.flatMap bX)),[(br,Row.c E),(b2,Row.c Z)] ++ [(b3,Row.c O)]++([]++bo a' C' ++ [(b5,Row.c (gu s.al.l[i]))])⟩) (ax.of_le ⟨by simp,fun w hw=>hw⟩) ?_;refine aP.cO ae rfl (b:=b3) (k:=366) rfl rfl (by simp[Value.cells,a7]) (by rw[hOl];decide) ?_;conv=>whnf))
     have hv:(⟨⟨a',c'⟩,s.al.l.take (i+1)⟩:Sl Al).v = .slice a' (i+1) c':=by
      unfold Sl.v
      dsimp only
      rw[List.length_take,Nat.min_eq_left hk']
     have hlay:laid O 366 [.slice a' (i+1) c']=aT ⟨s.T,s.D,s.q,⟨pr,s.pr.l⟩,s.nx,⟨cp,s.cp.l⟩,⟨gr,s.gr.l⟩,⟨ti,s.ti.l⟩,s.qu,s.pg,fun j=>⟨hs j,(s.sp j).l⟩,⟨wi,s.wi.l⟩,s.bk,s.dc,s.tr,⟨s.lk.pat,s.lk.now,s.lk.sent,s.lk.first,fl,s.lk.fly,s.lk.wh,s.lk.wait,s.lk.co,s.lk.ci⟩,s.se,s.now,⟨⟨a',c'⟩,s.al.l.take (i+1)⟩,fun _=>false,default,s.rc,s.ac,⟨nw,s.nw.l⟩⟩:=by
      rw[← hv,hO]
      kernel_rfl
     refine⟨(i+1,a',c',C',aT ⟨s.T,s.D,s.q,⟨pr,s.pr.l⟩,s.nx,⟨cp,s.cp.l⟩,⟨gr,s.gr.l⟩,⟨ti,s.ti.l⟩,s.qu,s.pg,fun j=>⟨hs j,(s.sp j).l⟩,⟨wi,s.wi.l⟩,s.bk,s.dc,s.tr,⟨s.lk.pat,s.lk.now,s.lk.sent,s.lk.first,fl,s.lk.fly,s.lk.wh,s.lk.wait,s.lk.co,s.lk.ci⟩,s.se,s.now,⟨⟨a',c'⟩,s.al.l.take (i+1)⟩,fun _=>false,default,s.rc,s.ac,⟨nw,s.nw.l⟩⟩),⟨⟨hk',by dsimp only;rw[fg hk'];exact hO',rfl⟩,by dsimp only;omega⟩,?_,?_,?_⟩
     · conv=>whnf
       refine⟨?_,rfl⟩
       repeat (first | exact au.nil | refine au.any ?_ | refine au.cons ?_ | refine au.eq (by rw[wrap_i64 (by omega)];rfl) ?_)
     · conv=>whnf
       exact⟨⟨rfl,rfl⟩,⟨rfl,rfl⟩,⟨rfl,rfl⟩,trivial⟩
     · rw[← hlay]
       exact ax.of_le ⟨(List.Sublist.refl [_,_,_]).append (List.sublist_append_left _ _),fun w hw=>hw⟩
   · have hke:i=s.al.l.length:=by
      simp only[ao,decide_eq_false_iff_not] at hlt2
      omega
     subst hke
     rw[List.take_length] at hOw hO
     have halO:(⟨aal,cal⟩:Hd).Ok s.al.l.length:=⟨hOw.cJ,hOw.fit⟩
     have hEn:ax ⟨fun w=>(((((((((s.Rows w∧s.nw.At aU w)∧∀ j,j<32→(⟨hs j,(s.sp j).l⟩:Sl Se).At bT w)∧ai w pr.a (s.pr.l.flatMap b_))∧ai w cp.a (s.cp.l.flatMap bx))∧ai w gr.a (s.gr.l.flatMap bM))∧ai w ti.a (s.ti.l.flatMap cu))∧ai w wi.a (s.wi.l.flatMap aW))∧ai w nw.a (s.nw.l.flatMap aU))∧ai w fl.a (s.lk.fly.flatMap bX)),[(br,Row.c E),(b2,Row.c Z),(b3,Row.c O)]++bo aal C⟩ ⟨fun w=>((((((((((s.Rows w∧s.nw.At aU w)∧∀ j,j<32→(⟨hs j,(s.sp j).l⟩:Sl Se).At bT w)∧ai w pr.a (s.pr.l.flatMap b_))∧ai w cp.a (s.cp.l.flatMap bx))∧ai w gr.a (s.gr.l.flatMap bM))∧ai w ti.a (s.ti.l.flatMap cu))∧ai w wi.a (s.wi.l.flatMap aW))∧ai w nw.a (s.nw.l.flatMap aU))∧ai w fl.a (s.lk.fly.flatMap bX))∧ai w aal (s.al.l.flatMap gu)),[(br,Row.c E),(b2,Row.c Z),(b3,Row.c O)]⟩:=
      ax.trans (ax.of_le (F':=⟨fun w=>(((((((((s.Rows w∧s.nw.At aU w)∧∀ j,j<32→(⟨hs j,(s.sp j).l⟩:Sl Se).At bT w)∧ai w pr.a (s.pr.l.flatMap b_))∧ai w cp.a (s.cp.l.flatMap bx))∧ai w gr.a (s.gr.l.flatMap bM))∧ai w ti.a (s.ti.l.flatMap cu))∧ai w wi.a (s.wi.l.flatMap aW))∧ai w nw.a (s.nw.l.flatMap aU))∧ai w fl.a (s.lk.fly.flatMap bX)),[(br,Row.c E),(b2,Row.c Z),(b3,Row.c O)]++bo aal C ++ []⟩) ⟨by simp,fun w hw=>hw⟩) (ax.trans (hOw.share (r1:=[(br,Row.c E),(b2,Row.c Z),(b3,Row.c O)]) (r2:=[])) (ax.of_le ⟨by simp,fun w hw=>hw⟩))
     clear hOs hlt2 hk hrow hho hle hOw hOl
     conv=>whnf
     repeat (refine aa.of ?_;conv=>whnf)
     first
      | refine⟨⟨⟨aal,cal⟩,O⟩,⟨halO,hO⟩,[0,1,2],⟨by decide,by simp,rfl⟩,?_,hEn⟩
     repeat (first | exact au.nil | refine au.any ?_ | refine au.cons ?_)
 · intro x hx bs' hbs'
   obtain⟨al,O⟩:=x
   obtain⟨hal,hO⟩:=hx
   rw[aS]
   exact CZ s ho hm w0 av E hR Z hZ br b2 b3 hs hsO pr hpr cp hcp gr hgr ti hti wi hwi nw hnw fl hfl al hal O hO bs' hbs'
theorem CW (s:bW) (ho:s.Ok) (hm:s.Small) (w0:World) (av:Nat→Prop) (E:List Value) (hR:dJ s E) (Z:List Value) (hZ:Z.length=376) (br b2 b3:Nat) (hs:Nat→Hd) (hsO : ∀ j,j<32→(⟨hs j,(s.sp j).l⟩:Sl Se).Ok) (pr:Hd) (hpr:pr.Ok s.pr.l.length) (cp:Hd) (hcp:cp.Ok s.cp.l.length) (gr:Hd) (hgr:gr.Ok s.gr.l.length) (ti:Hd) (hti:ti.Ok s.ti.l.length) (wi:Hd) (hwi:wi.Ok s.wi.l.length) (nw:Hd) (hnw:nw.Ok s.nw.l.length) (fl:Hd) (hfl:fl.Ok s.lk.fly.length) (O:List Value) (hO:O=aT ⟨s.T,s.D,s.q,⟨pr,s.pr.l⟩,s.nx,⟨cp,s.cp.l⟩,⟨gr,s.gr.l⟩,⟨ti,s.ti.l⟩,s.qu,s.pg,fun j=>⟨hs j,(s.sp j).l⟩,⟨wi,s.wi.l⟩,s.bk,s.dc,s.tr,⟨s.lk.pat,s.lk.now,s.lk.sent,s.lk.first,fl,s.lk.fly,s.lk.wh,s.lk.wait,s.lk.co,s.lk.ci⟩,s.se,0,default,fun _=>false,default,s.rc,s.ac,⟨nw,s.nw.l⟩⟩) (bs:List (Nat×Nat)) (hbs:bs.length=3) :
 az Tryz.prog w0 (fun _ _=>False) av (cY 20 toCode) (dQ br b2 b3) bs [cE s.dc,dO s.lk,dZ s.se] ⟨fun w=>(((((((((s.Rows w∧s.nw.At aU w)∧∀ j,j<32→(⟨hs j,(s.sp j).l⟩:Sl Se).At bT w)∧ai w pr.a (s.pr.l.flatMap b_))∧ai w cp.a (s.cp.l.flatMap bx))∧ai w gr.a (s.gr.l.flatMap bM))∧ai w ti.a (s.ti.l.flatMap cu))∧ai w wi.a (s.wi.l.flatMap aW))∧ai w nw.a (s.nw.l.flatMap aU))∧ai w fl.a (s.lk.fly.flatMap bX)),[(br,Row.c E),(b2,Row.c Z),(b3,Row.c O)]⟩ (toEnd s):=by
 obtain⟨⟨c1,o1⟩,⟨c2,o2⟩,⟨c3,o3⟩,rfl⟩ : ∃ x y z,bs = [x,y,z]:=by
  rcases bs with _ | ⟨x,_ | ⟨y,_ | ⟨z,_ | ⟨u,r⟩⟩⟩⟩<;>simp at hbs
  exact⟨x,y,z,rfl⟩
 refine az.cr ae 1 (ι:=List Value) (fun x=>x=aT ⟨s.T,s.D,s.q,⟨pr,s.pr.l⟩,s.nx,⟨cp,s.cp.l⟩,⟨gr,s.gr.l⟩,⟨ti,s.ti.l⟩,s.qu,s.pg,fun j=>⟨hs j,(s.sp j).l⟩,⟨wi,s.wi.l⟩,s.bk,s.dc,s.tr,⟨s.lk.pat,s.lk.now,s.lk.sent,s.lk.first,fl,s.lk.fly,s.lk.wh,s.lk.wait,s.lk.co,s.lk.ci⟩,s.se,s.now,default,fun _=>false,default,s.rc,s.ac,⟨nw,s.nw.l⟩⟩) (fun x=>dQ br b2 b3) (fun x=>[cE s.dc,dO s.lk,dZ s.se]) (fun x=>⟨fun w=>(((((((((s.Rows w∧s.nw.At aU w)∧∀ j,j<32→(⟨hs j,(s.sp j).l⟩:Sl Se).At bT w)∧ai w pr.a (s.pr.l.flatMap b_))∧ai w cp.a (s.cp.l.flatMap bx))∧ai w gr.a (s.gr.l.flatMap bM))∧ai w ti.a (s.ti.l.flatMap cu))∧ai w wi.a (s.wi.l.flatMap aW))∧ai w nw.a (s.nw.l.flatMap aU))∧ai w fl.a (s.lk.fly.flatMap bX)),[(br,Row.c E),(b2,Row.c Z),(b3,Row.c x)]⟩) ?_ ?_
 · conv=>whnf
   repeat (refine aa.of ?_;conv=>whnf)
   refine ar.aj (ak.aH ae rfl rfl (ad:=⟨br,0,none⟩) (k:=369) (L:=E) (v:=.int .i64 s.now) (aK.row (List.Mem.head _)) (fun _=>rfl) hR.eNow ?_)
   conv=>whnf
   repeat (refine aa.of ?_;conv=>whnf)
   have hOl:O.length=376:=by rw[hO];exact ba _
   refine aP.bZ (F':=⟨fun w=>(((((((((s.Rows w∧s.nw.At aU w)∧∀ j,j<32→(⟨hs j,(s.sp j).l⟩:Sl Se).At bT w)∧ai w pr.a (s.pr.l.flatMap b_))∧ai w cp.a (s.cp.l.flatMap bx))∧ai w gr.a (s.gr.l.flatMap bM))∧ai w ti.a (s.ti.l.flatMap cu))∧ai w wi.a (s.wi.l.flatMap aW))∧ai w nw.a (s.nw.l.flatMap aU))∧ai w fl.a (s.lk.fly.flatMap bX)),[(br,Row.c E),(b2,Row.c Z)] ++ [(b3,Row.c O)] ++ []⟩) (ax.of_le ⟨List.Sublist.refl _,fun w hw=>hw⟩) ?_
   refine aP.aX ae rfl (b:=b3) (k:=365) (X:=aT ⟨s.T,s.D,s.q,⟨pr,s.pr.l⟩,s.nx,⟨cp,s.cp.l⟩,⟨gr,s.gr.l⟩,⟨ti,s.ti.l⟩,s.qu,s.pg,fun j=>⟨hs j,(s.sp j).l⟩,⟨wi,s.wi.l⟩,s.bk,s.dc,s.tr,⟨s.lk.pat,s.lk.now,s.lk.sent,s.lk.first,fl,s.lk.fly,s.lk.wh,s.lk.wait,s.lk.co,s.lk.ci⟩,s.se,s.now,default,fun _=>false,default,s.rc,s.ac,⟨nw,s.nw.l⟩⟩) rfl rfl (List.all_eq_true.1 (by rfl)) (by rw[hOl];decide) (by rw[hO];kernel_rfl) ?_
   clear hO hOl
   obtain⟨O,hO⟩ : ∃ O,O=aT ⟨s.T,s.D,s.q,⟨pr,s.pr.l⟩,s.nx,⟨cp,s.cp.l⟩,⟨gr,s.gr.l⟩,⟨ti,s.ti.l⟩,s.qu,s.pg,fun j=>⟨hs j,(s.sp j).l⟩,⟨wi,s.wi.l⟩,s.bk,s.dc,s.tr,⟨s.lk.pat,s.lk.now,s.lk.sent,s.lk.first,fl,s.lk.fly,s.lk.wh,s.lk.wait,s.lk.co,s.lk.ci⟩,s.se,s.now,default,fun _=>false,default,s.rc,s.ac,⟨nw,s.nw.l⟩⟩:=⟨_,rfl⟩
   rw[← hO]
   conv=>whnf
   repeat (refine aa.of ?_;conv=>whnf)
   conv=>whnf
   repeat (refine aa.of ?_;conv=>whnf)
   first
    | refine⟨O,(by first | rfl),[0,1,2],⟨by decide,by simp,rfl⟩,?_,ax.refl _⟩
   repeat (first | exact au.nil | refine au.any ?_ | refine au.cons ?_)
 · intro x hx bs' hbs'
   have hO:=hx
   rw[aS]
   exact B4 s ho hm w0 av E hR Z hZ br b2 b3 hs hsO pr hpr cp hcp gr hgr ti hti wi hwi nw hnw fl hfl x hO bs' hbs'
theorem CY (s:bW) (ho:s.Ok) (hm:s.Small) (w0:World) (av:Nat→Prop) (E:List Value) (hR:dJ s E) (Z:List Value) (hZ:Z.length=376) (br b2 b3:Nat) (hs:Nat→Hd) (hsO : ∀ j,j<32→(⟨hs j,(s.sp j).l⟩:Sl Se).Ok) (pr:Hd) (hpr:pr.Ok s.pr.l.length) (cp:Hd) (hcp:cp.Ok s.cp.l.length) (gr:Hd) (hgr:gr.Ok s.gr.l.length) (ti:Hd) (hti:ti.Ok s.ti.l.length) (wi:Hd) (hwi:wi.Ok s.wi.l.length) (nw:Hd) (hnw:nw.Ok s.nw.l.length) (fl:Hd) (hfl:fl.Ok s.lk.fly.length) (O:List Value) (hO:O=aT ⟨s.T,s.D,s.q,⟨pr,s.pr.l⟩,s.nx,⟨cp,s.cp.l⟩,⟨gr,s.gr.l⟩,⟨ti,s.ti.l⟩,s.qu,s.pg,fun j=>⟨hs j,(s.sp j).l⟩,⟨wi,s.wi.l⟩,s.bk,s.dc,s.tr,⟨s.lk.pat,s.lk.now,s.lk.sent,s.lk.first,fl,s.lk.fly,s.lk.wh,s.lk.wait,s.lk.co,s.lk.ci⟩,⟨s.se.inp,s.se.at',s.se.pause,s.se.got,s.se.out,s.se.co,default⟩,0,default,fun _=>false,default,s.rc,s.ac,⟨nw,s.nw.l⟩⟩) (bs:List (Nat×Nat)) (hbs:bs.length=3) :
 az Tryz.prog w0 (fun _ _=>False) av (cY 19 toCode) (dQ br b2 b3) bs [cE s.dc,dO s.lk,dZ s.se] ⟨fun w=>(((((((((s.Rows w∧s.nw.At aU w)∧∀ j,j<32→(⟨hs j,(s.sp j).l⟩:Sl Se).At bT w)∧ai w pr.a (s.pr.l.flatMap b_))∧ai w cp.a (s.cp.l.flatMap bx))∧ai w gr.a (s.gr.l.flatMap bM))∧ai w ti.a (s.ti.l.flatMap cu))∧ai w wi.a (s.wi.l.flatMap aW))∧ai w nw.a (s.nw.l.flatMap aU))∧ai w fl.a (s.lk.fly.flatMap bX)),[(br,Row.c E),(b2,Row.c Z),(b3,Row.c O)]⟩ (toEnd s):=by
 obtain⟨⟨c1,o1⟩,⟨c2,o2⟩,⟨c3,o3⟩,rfl⟩ : ∃ x y z,bs = [x,y,z]:=by
  rcases bs with _ | ⟨x,_ | ⟨y,_ | ⟨z,_ | ⟨u,r⟩⟩⟩⟩<;>simp at hbs
  exact⟨x,y,z,rfl⟩
 refine az.cr ae 1 (ι:=List Value) (fun x=>x=aT ⟨s.T,s.D,s.q,⟨pr,s.pr.l⟩,s.nx,⟨cp,s.cp.l⟩,⟨gr,s.gr.l⟩,⟨ti,s.ti.l⟩,s.qu,s.pg,fun j=>⟨hs j,(s.sp j).l⟩,⟨wi,s.wi.l⟩,s.bk,s.dc,s.tr,⟨s.lk.pat,s.lk.now,s.lk.sent,s.lk.first,fl,s.lk.fly,s.lk.wh,s.lk.wait,s.lk.co,s.lk.ci⟩,s.se,0,default,fun _=>false,default,s.rc,s.ac,⟨nw,s.nw.l⟩⟩) (fun x=>dQ br b2 b3) (fun x=>[cE s.dc,dO s.lk,dZ s.se]) (fun x=>⟨fun w=>(((((((((s.Rows w∧s.nw.At aU w)∧∀ j,j<32→(⟨hs j,(s.sp j).l⟩:Sl Se).At bT w)∧ai w pr.a (s.pr.l.flatMap b_))∧ai w cp.a (s.cp.l.flatMap bx))∧ai w gr.a (s.gr.l.flatMap bM))∧ai w ti.a (s.ti.l.flatMap cu))∧ai w wi.a (s.wi.l.flatMap aW))∧ai w nw.a (s.nw.l.flatMap aU))∧ai w fl.a (s.lk.fly.flatMap bX)),[(br,Row.c E),(b2,Row.c Z),(b3,Row.c x)]⟩) ?_ ?_
 · conv=>whnf
   repeat (refine aa.of ?_;conv=>whnf)
   have hOl:O.length=376:=by rw[hO];exact ba _
   refine aP.bZ (F':=⟨fun w=>(((((((((s.Rows w∧s.nw.At aU w)∧∀ j,j<32→(⟨hs j,(s.sp j).l⟩:Sl Se).At bT w)∧ai w pr.a (s.pr.l.flatMap b_))∧ai w cp.a (s.cp.l.flatMap bx))∧ai w gr.a (s.gr.l.flatMap bM))∧ai w ti.a (s.ti.l.flatMap cu))∧ai w wi.a (s.wi.l.flatMap aW))∧ai w nw.a (s.nw.l.flatMap aU))∧ai w fl.a (s.lk.fly.flatMap bX)),[(br,Row.c E),(b2,Row.c Z)] ++ [(b3,Row.c O)] ++ []⟩) (ax.of_le ⟨List.Sublist.refl _,fun w hw=>hw⟩) ?_
   refine aP.aX ae rfl (b:=b3) (k:=357) (X:=aT ⟨s.T,s.D,s.q,⟨pr,s.pr.l⟩,s.nx,⟨cp,s.cp.l⟩,⟨gr,s.gr.l⟩,⟨ti,s.ti.l⟩,s.qu,s.pg,fun j=>⟨hs j,(s.sp j).l⟩,⟨wi,s.wi.l⟩,s.bk,s.dc,s.tr,⟨s.lk.pat,s.lk.now,s.lk.sent,s.lk.first,fl,s.lk.fly,s.lk.wh,s.lk.wait,s.lk.co,s.lk.ci⟩,s.se,0,default,fun _=>false,default,s.rc,s.ac,⟨nw,s.nw.l⟩⟩) rfl rfl (List.all_eq_true.1 (by rfl)) (by rw[hOl];decide) (by rw[hO];kernel_rfl) ?_
   clear hO hOl
   obtain⟨O,hO⟩ : ∃ O,O=aT ⟨s.T,s.D,s.q,⟨pr,s.pr.l⟩,s.nx,⟨cp,s.cp.l⟩,⟨gr,s.gr.l⟩,⟨ti,s.ti.l⟩,s.qu,s.pg,fun j=>⟨hs j,(s.sp j).l⟩,⟨wi,s.wi.l⟩,s.bk,s.dc,s.tr,⟨s.lk.pat,s.lk.now,s.lk.sent,s.lk.first,fl,s.lk.fly,s.lk.wh,s.lk.wait,s.lk.co,s.lk.ci⟩,s.se,0,default,fun _=>false,default,s.rc,s.ac,⟨nw,s.nw.l⟩⟩:=⟨_,rfl⟩
   rw[← hO]
   conv=>whnf
   repeat (refine aa.of ?_;conv=>whnf)
   conv=>whnf
   repeat (refine aa.of ?_;conv=>whnf)
   first
    | refine⟨O,(by first | rfl),[0,1,2],⟨by decide,by simp,rfl⟩,?_,ax.refl _⟩
   repeat (first | exact au.nil | refine au.any ?_ | refine au.cons ?_)
 · intro x hx bs' hbs'
   have hO:=hx
   rw[aS]
   exact CW s ho hm w0 av E hR Z hZ br b2 b3 hs hsO pr hpr cp hcp gr hgr ti hti wi hwi nw hnw fl hfl x hO bs' hbs'
theorem CC (s:bW) (ho:s.Ok) (hm:s.Small) (w0:World) (av:Nat→Prop) (E:List Value) (hR:dJ s E) (Z:List Value) (hZ:Z.length=376) (br b2 b3:Nat) (hs:Nat→Hd) (hsO : ∀ j,j<32→(⟨hs j,(s.sp j).l⟩:Sl Se).Ok) (pr:Hd) (hpr:pr.Ok s.pr.l.length) (cp:Hd) (hcp:cp.Ok s.cp.l.length) (gr:Hd) (hgr:gr.Ok s.gr.l.length) (ti:Hd) (hti:ti.Ok s.ti.l.length) (wi:Hd) (hwi:wi.Ok s.wi.l.length) (nw:Hd) (hnw:nw.Ok s.nw.l.length) (fl:Hd) (hfl:fl.Ok s.lk.fly.length) (O:List Value) (hO:O=aT ⟨s.T,s.D,s.q,⟨pr,s.pr.l⟩,s.nx,⟨cp,s.cp.l⟩,⟨gr,s.gr.l⟩,⟨ti,s.ti.l⟩,s.qu,s.pg,fun j=>⟨hs j,(s.sp j).l⟩,⟨wi,s.wi.l⟩,s.bk,s.dc,s.tr,⟨s.lk.pat,s.lk.now,s.lk.sent,s.lk.first,fl,s.lk.fly,s.lk.wh,s.lk.wait,s.lk.co,s.lk.ci⟩,⟨s.se.inp,s.se.at',s.se.pause,s.se.got,s.se.out,default,default⟩,0,default,fun _=>false,default,s.rc,s.ac,⟨nw,s.nw.l⟩⟩) (bs:List (Nat×Nat)) (hbs:bs.length=3) :
 az Tryz.prog w0 (fun _ _=>False) av (cY 18 toCode) (dQ br b2 b3) bs [cE s.dc,dO s.lk,dZ s.se] ⟨fun w=>(((((((((s.Rows w∧s.nw.At aU w)∧∀ j,j<32→(⟨hs j,(s.sp j).l⟩:Sl Se).At bT w)∧ai w pr.a (s.pr.l.flatMap b_))∧ai w cp.a (s.cp.l.flatMap bx))∧ai w gr.a (s.gr.l.flatMap bM))∧ai w ti.a (s.ti.l.flatMap cu))∧ai w wi.a (s.wi.l.flatMap aW))∧ai w nw.a (s.nw.l.flatMap aU))∧ai w fl.a (s.lk.fly.flatMap bX)),[(br,Row.c E),(b2,Row.c Z),(b3,Row.c O)]⟩ (toEnd s):=by
 obtain⟨⟨c1,o1⟩,⟨c2,o2⟩,⟨c3,o3⟩,rfl⟩ : ∃ x y z,bs = [x,y,z]:=by
  rcases bs with _ | ⟨x,_ | ⟨y,_ | ⟨z,_ | ⟨u,r⟩⟩⟩⟩<;>simp at hbs
  exact⟨x,y,z,rfl⟩
 refine az.cr ae 1 (ι:=List Value) (fun x=>x=aT ⟨s.T,s.D,s.q,⟨pr,s.pr.l⟩,s.nx,⟨cp,s.cp.l⟩,⟨gr,s.gr.l⟩,⟨ti,s.ti.l⟩,s.qu,s.pg,fun j=>⟨hs j,(s.sp j).l⟩,⟨wi,s.wi.l⟩,s.bk,s.dc,s.tr,⟨s.lk.pat,s.lk.now,s.lk.sent,s.lk.first,fl,s.lk.fly,s.lk.wh,s.lk.wait,s.lk.co,s.lk.ci⟩,⟨s.se.inp,s.se.at',s.se.pause,s.se.got,s.se.out,s.se.co,default⟩,0,default,fun _=>false,default,s.rc,s.ac,⟨nw,s.nw.l⟩⟩) (fun x=>dQ br b2 b3) (fun x=>[cE s.dc,dO s.lk,dZ s.se]) (fun x=>⟨fun w=>(((((((((s.Rows w∧s.nw.At aU w)∧∀ j,j<32→(⟨hs j,(s.sp j).l⟩:Sl Se).At bT w)∧ai w pr.a (s.pr.l.flatMap b_))∧ai w cp.a (s.cp.l.flatMap bx))∧ai w gr.a (s.gr.l.flatMap bM))∧ai w ti.a (s.ti.l.flatMap cu))∧ai w wi.a (s.wi.l.flatMap aW))∧ai w nw.a (s.nw.l.flatMap aU))∧ai w fl.a (s.lk.fly.flatMap bX)),[(br,Row.c E),(b2,Row.c Z),(b3,Row.c x)]⟩) ?_ ?_
 · conv=>whnf
   repeat (refine aa.of ?_;conv=>whnf)
   have hOl:O.length=376:=by rw[hO];exact ba _
   refine aP.bZ (F':=⟨fun w=>(((((((((s.Rows w∧s.nw.At aU w)∧∀ j,j<32→(⟨hs j,(s.sp j).l⟩:Sl Se).At bT w)∧ai w pr.a (s.pr.l.flatMap b_))∧ai w cp.a (s.cp.l.flatMap bx))∧ai w gr.a (s.gr.l.flatMap bM))∧ai w ti.a (s.ti.l.flatMap cu))∧ai w wi.a (s.wi.l.flatMap aW))∧ai w nw.a (s.nw.l.flatMap aU))∧ai w fl.a (s.lk.fly.flatMap bX)),[(br,Row.c E),(b2,Row.c Z)] ++ [(b3,Row.c O)] ++ []⟩) (ax.of_le ⟨List.Sublist.refl _,fun w hw=>hw⟩) ?_
   refine aP.aX ae rfl (b:=b3) (k:=349) (X:=aT ⟨s.T,s.D,s.q,⟨pr,s.pr.l⟩,s.nx,⟨cp,s.cp.l⟩,⟨gr,s.gr.l⟩,⟨ti,s.ti.l⟩,s.qu,s.pg,fun j=>⟨hs j,(s.sp j).l⟩,⟨wi,s.wi.l⟩,s.bk,s.dc,s.tr,⟨s.lk.pat,s.lk.now,s.lk.sent,s.lk.first,fl,s.lk.fly,s.lk.wh,s.lk.wait,s.lk.co,s.lk.ci⟩,⟨s.se.inp,s.se.at',s.se.pause,s.se.got,s.se.out,s.se.co,default⟩,0,default,fun _=>false,default,s.rc,s.ac,⟨nw,s.nw.l⟩⟩) rfl rfl (List.all_eq_true.1 (by rfl)) (by rw[hOl];decide) (by rw[hO];kernel_rfl) ?_
   clear hO hOl
   obtain⟨O,hO⟩ : ∃ O,O=aT ⟨s.T,s.D,s.q,⟨pr,s.pr.l⟩,s.nx,⟨cp,s.cp.l⟩,⟨gr,s.gr.l⟩,⟨ti,s.ti.l⟩,s.qu,s.pg,fun j=>⟨hs j,(s.sp j).l⟩,⟨wi,s.wi.l⟩,s.bk,s.dc,s.tr,⟨s.lk.pat,s.lk.now,s.lk.sent,s.lk.first,fl,s.lk.fly,s.lk.wh,s.lk.wait,s.lk.co,s.lk.ci⟩,⟨s.se.inp,s.se.at',s.se.pause,s.se.got,s.se.out,s.se.co,default⟩,0,default,fun _=>false,default,s.rc,s.ac,⟨nw,s.nw.l⟩⟩:=⟨_,rfl⟩
   rw[← hO]
   conv=>whnf
   repeat (refine aa.of ?_;conv=>whnf)
   conv=>whnf
   repeat (refine aa.of ?_;conv=>whnf)
   first
    | refine⟨O,(by first | rfl),[0,1,2],⟨by decide,by simp,rfl⟩,?_,ax.refl _⟩
   repeat (first | exact au.nil | refine au.any ?_ | refine au.cons ?_)
 · intro x hx bs' hbs'
   have hO:=hx
   rw[aS]
   exact CY s ho hm w0 av E hR Z hZ br b2 b3 hs hsO pr hpr cp hcp gr hgr ti hti wi hwi nw hnw fl hfl x hO bs' hbs'
theorem CE (s:bW) (ho:s.Ok) (hm:s.Small) (w0:World) (av:Nat→Prop) (E:List Value) (hR:dJ s E) (Z:List Value) (hZ:Z.length=376) (br b2 b3:Nat) (hs:Nat→Hd) (hsO : ∀ j,j<32→(⟨hs j,(s.sp j).l⟩:Sl Se).Ok) (pr:Hd) (hpr:pr.Ok s.pr.l.length) (cp:Hd) (hcp:cp.Ok s.cp.l.length) (gr:Hd) (hgr:gr.Ok s.gr.l.length) (ti:Hd) (hti:ti.Ok s.ti.l.length) (wi:Hd) (hwi:wi.Ok s.wi.l.length) (nw:Hd) (hnw:nw.Ok s.nw.l.length) (fl:Hd) (hfl:fl.Ok s.lk.fly.length) (O:List Value) (hO:O=aT ⟨s.T,s.D,s.q,⟨pr,s.pr.l⟩,s.nx,⟨cp,s.cp.l⟩,⟨gr,s.gr.l⟩,⟨ti,s.ti.l⟩,s.qu,s.pg,fun j=>⟨hs j,(s.sp j).l⟩,⟨wi,s.wi.l⟩,s.bk,s.dc,s.tr,⟨s.lk.pat,s.lk.now,s.lk.sent,s.lk.first,fl,s.lk.fly,s.lk.wh,s.lk.wait,s.lk.co,s.lk.ci⟩,default,0,default,fun _=>false,default,s.rc,s.ac,⟨nw,s.nw.l⟩⟩) (bs:List (Nat×Nat)) (hbs:bs.length=3) :
 az Tryz.prog w0 (fun _ _=>False) av (cY 17 toCode) (dQ br b2 b3) bs [cE s.dc,dO s.lk,dZ s.se] ⟨fun w=>(((((((((s.Rows w∧s.nw.At aU w)∧∀ j,j<32→(⟨hs j,(s.sp j).l⟩:Sl Se).At bT w)∧ai w pr.a (s.pr.l.flatMap b_))∧ai w cp.a (s.cp.l.flatMap bx))∧ai w gr.a (s.gr.l.flatMap bM))∧ai w ti.a (s.ti.l.flatMap cu))∧ai w wi.a (s.wi.l.flatMap aW))∧ai w nw.a (s.nw.l.flatMap aU))∧ai w fl.a (s.lk.fly.flatMap bX)),[(br,Row.c E),(b2,Row.c Z),(b3,Row.c O)]⟩ (toEnd s):=by
 obtain⟨⟨c1,o1⟩,⟨c2,o2⟩,⟨c3,o3⟩,rfl⟩ : ∃ x y z,bs = [x,y,z]:=by
  rcases bs with _ | ⟨x,_ | ⟨y,_ | ⟨z,_ | ⟨u,r⟩⟩⟩⟩<;>simp at hbs
  exact⟨x,y,z,rfl⟩
 refine az.cr ae 1 (ι:=List Value) (fun x=>x=aT ⟨s.T,s.D,s.q,⟨pr,s.pr.l⟩,s.nx,⟨cp,s.cp.l⟩,⟨gr,s.gr.l⟩,⟨ti,s.ti.l⟩,s.qu,s.pg,fun j=>⟨hs j,(s.sp j).l⟩,⟨wi,s.wi.l⟩,s.bk,s.dc,s.tr,⟨s.lk.pat,s.lk.now,s.lk.sent,s.lk.first,fl,s.lk.fly,s.lk.wh,s.lk.wait,s.lk.co,s.lk.ci⟩,⟨s.se.inp,s.se.at',s.se.pause,s.se.got,s.se.out,default,default⟩,0,default,fun _=>false,default,s.rc,s.ac,⟨nw,s.nw.l⟩⟩) (fun x=>dQ br b2 b3) (fun x=>[cE s.dc,dO s.lk,dZ s.se]) (fun x=>⟨fun w=>(((((((((s.Rows w∧s.nw.At aU w)∧∀ j,j<32→(⟨hs j,(s.sp j).l⟩:Sl Se).At bT w)∧ai w pr.a (s.pr.l.flatMap b_))∧ai w cp.a (s.cp.l.flatMap bx))∧ai w gr.a (s.gr.l.flatMap bM))∧ai w ti.a (s.ti.l.flatMap cu))∧ai w wi.a (s.wi.l.flatMap aW))∧ai w nw.a (s.nw.l.flatMap aU))∧ai w fl.a (s.lk.fly.flatMap bX)),[(br,Row.c E),(b2,Row.c Z),(b3,Row.c x)]⟩) ?_ ?_
 · conv=>whnf
   repeat (refine aa.of ?_;conv=>whnf)
   obtain⟨X,hX⟩ : ∃ X,X=iz ⟨s.se.inp,s.se.at',s.se.pause,s.se.got,s.se.out,default,default⟩:=⟨_,rfl⟩
   have hXl:X.length=21:=by rw[hX];rfl
   have hX1 : ∀ v∈X,a7 v=true:=by rw[hX];exact List.all_eq_true.1 rfl
   refine ar.aj (ak.fo ae rfl rfl (kE (n:=21) (X:=X) (by kernel_rfl) (by kernel_rfl) (by rw[hX];kernel_rfl) ?_))
   conv=>whnf
   repeat (refine aa.of ?_;conv=>whnf)
   have hOl:O.length=376:=by rw[hO];exact ba _
   refine aP.bZ (F':=⟨fun w=>(((((((((s.Rows w∧s.nw.At aU w)∧∀ j,j<32→(⟨hs j,(s.sp j).l⟩:Sl Se).At bT w)∧ai w pr.a (s.pr.l.flatMap b_))∧ai w cp.a (s.cp.l.flatMap bx))∧ai w gr.a (s.gr.l.flatMap bM))∧ai w ti.a (s.ti.l.flatMap cu))∧ai w wi.a (s.wi.l.flatMap aW))∧ai w nw.a (s.nw.l.flatMap aU))∧ai w fl.a (s.lk.fly.flatMap bX)),[(br,Row.c E),(b2,Row.c Z)] ++ [(b3,Row.c O)] ++ []⟩) (ax.of_le ⟨List.Sublist.refl _,fun w hw=>hw⟩) ?_
   refine aP.aX ae rfl (b:=b3) (k:=344) (X:=aT ⟨s.T,s.D,s.q,⟨pr,s.pr.l⟩,s.nx,⟨cp,s.cp.l⟩,⟨gr,s.gr.l⟩,⟨ti,s.ti.l⟩,s.qu,s.pg,fun j=>⟨hs j,(s.sp j).l⟩,⟨wi,s.wi.l⟩,s.bk,s.dc,s.tr,⟨s.lk.pat,s.lk.now,s.lk.sent,s.lk.first,fl,s.lk.fly,s.lk.wh,s.lk.wait,s.lk.co,s.lk.ci⟩,⟨s.se.inp,s.se.at',s.se.pause,s.se.got,s.se.out,default,default⟩,0,default,fun _=>false,default,s.rc,s.ac,⟨nw,s.nw.l⟩⟩) rfl (by exact hXl) (by exact hX1) (by rw[hOl];decide) (by show laid O 344 X=_;rw[hO,hX];kernel_rfl) ?_
   clear hO hOl
   obtain⟨O,hO⟩ : ∃ O,O=aT ⟨s.T,s.D,s.q,⟨pr,s.pr.l⟩,s.nx,⟨cp,s.cp.l⟩,⟨gr,s.gr.l⟩,⟨ti,s.ti.l⟩,s.qu,s.pg,fun j=>⟨hs j,(s.sp j).l⟩,⟨wi,s.wi.l⟩,s.bk,s.dc,s.tr,⟨s.lk.pat,s.lk.now,s.lk.sent,s.lk.first,fl,s.lk.fly,s.lk.wh,s.lk.wait,s.lk.co,s.lk.ci⟩,⟨s.se.inp,s.se.at',s.se.pause,s.se.got,s.se.out,default,default⟩,0,default,fun _=>false,default,s.rc,s.ac,⟨nw,s.nw.l⟩⟩:=⟨_,rfl⟩
   rw[← hO]
   clear hXl hX1
   conv=>whnf
   repeat (refine aa.of ?_;conv=>whnf)
   conv=>whnf
   repeat (refine aa.of ?_;conv=>whnf)
   first
    | refine⟨O,(by first | rfl),[0,1,2],⟨by decide,by simp,rfl⟩,?_,ax.refl _⟩
   repeat (first | exact au.nil | refine au.any ?_ | refine au.cons ?_)
 · intro x hx bs' hbs'
   have hO:=hx
   rw[aS]
   exact CC s ho hm w0 av E hR Z hZ br b2 b3 hs hsO pr hpr cp hcp gr hgr ti hti wi hwi nw hnw fl hfl x hO bs' hbs'
theorem Cf (s:bW) (ho:s.Ok) (hm:s.Small) (w0:World) (av:Nat→Prop) (E:List Value) (hR:dJ s E) (Z:List Value) (hZ:Z.length=376) (br b2 b3:Nat) (hs:Nat→Hd) (hsO : ∀ j,j<32→(⟨hs j,(s.sp j).l⟩:Sl Se).Ok) (pr:Hd) (hpr:pr.Ok s.pr.l.length) (cp:Hd) (hcp:cp.Ok s.cp.l.length) (gr:Hd) (hgr:gr.Ok s.gr.l.length) (ti:Hd) (hti:ti.Ok s.ti.l.length) (wi:Hd) (hwi:wi.Ok s.wi.l.length) (nw:Hd) (hnw:nw.Ok s.nw.l.length) (O:List Value) (hO:O=aT ⟨s.T,s.D,s.q,⟨pr,s.pr.l⟩,s.nx,⟨cp,s.cp.l⟩,⟨gr,s.gr.l⟩,⟨ti,s.ti.l⟩,s.qu,s.pg,fun j=>⟨hs j,(s.sp j).l⟩,⟨wi,s.wi.l⟩,s.bk,s.dc,s.tr,⟨s.lk.pat,s.lk.now,s.lk.sent,s.lk.first,Hd.nil,[],s.lk.wh,s.lk.wait,s.lk.co,s.lk.ci⟩,default,0,default,fun _=>false,default,s.rc,s.ac,⟨nw,s.nw.l⟩⟩) (bs:List (Nat×Nat)) (hbs:bs.length=3) :
 az Tryz.prog w0 (fun _ _=>False) av (cY 16 toCode) (dQ br b2 b3) bs [cE s.dc,dO s.lk,dZ s.se] ⟨fun w=>((((((((s.Rows w∧s.nw.At aU w)∧∀ j,j<32→(⟨hs j,(s.sp j).l⟩:Sl Se).At bT w)∧ai w pr.a (s.pr.l.flatMap b_))∧ai w cp.a (s.cp.l.flatMap bx))∧ai w gr.a (s.gr.l.flatMap bM))∧ai w ti.a (s.ti.l.flatMap cu))∧ai w wi.a (s.wi.l.flatMap aW))∧ai w nw.a (s.nw.l.flatMap aU)),[(br,Row.c E),(b2,Row.c Z),(b3,Row.c O)]⟩ (toEnd s):=by
 obtain⟨⟨c1,o1⟩,⟨c2,o2⟩,⟨c3,o3⟩,rfl⟩ : ∃ x y z,bs = [x,y,z]:=by
  rcases bs with _ | ⟨x,_ | ⟨y,_ | ⟨z,_ | ⟨u,r⟩⟩⟩⟩<;>simp at hbs
  exact⟨x,y,z,rfl⟩
 refine az.cr ae 1 (ι:=Hd×List Value) (fun x=>(x.1).Ok s.lk.fly.length∧x.2=aT ⟨s.T,s.D,s.q,⟨pr,s.pr.l⟩,s.nx,⟨cp,s.cp.l⟩,⟨gr,s.gr.l⟩,⟨ti,s.ti.l⟩,s.qu,s.pg,fun j=>⟨hs j,(s.sp j).l⟩,⟨wi,s.wi.l⟩,s.bk,s.dc,s.tr,⟨s.lk.pat,s.lk.now,s.lk.sent,s.lk.first,x.1,s.lk.fly,s.lk.wh,s.lk.wait,s.lk.co,s.lk.ci⟩,default,0,default,fun _=>false,default,s.rc,s.ac,⟨nw,s.nw.l⟩⟩) (fun x=>dQ br b2 b3) (fun x=>[cE s.dc,dO s.lk,dZ s.se]) (fun x=>⟨fun w=>(((((((((s.Rows w∧s.nw.At aU w)∧∀ j,j<32→(⟨hs j,(s.sp j).l⟩:Sl Se).At bT w)∧ai w pr.a (s.pr.l.flatMap b_))∧ai w cp.a (s.cp.l.flatMap bx))∧ai w gr.a (s.gr.l.flatMap bM))∧ai w ti.a (s.ti.l.flatMap cu))∧ai w wi.a (s.wi.l.flatMap aW))∧ai w nw.a (s.nw.l.flatMap aU))∧ai w x.1.a (s.lk.fly.flatMap bX)),[(br,Row.c E),(b2,Row.c Z),(b3,Row.c x.2)]⟩) ?_ ?_
 · conv=>whnf
   repeat (refine aa.of ?_;conv=>whnf)
   obtain⟨hho,hle⟩:s.lk.fh.Ok s.lk.fly.length∧s.lk.fly.length≤4398046511104:=⟨ho.fh,hm.fl⟩
   have hrow : ∀ w,((((((((s.Rows w∧s.nw.At aU w)∧∀ j,j<32→(⟨hs j,(s.sp j).l⟩:Sl Se).At bT w)∧ai w pr.a (s.pr.l.flatMap b_))∧ai w cp.a (s.cp.l.flatMap bx))∧ai w gr.a (s.gr.l.flatMap bM))∧ai w ti.a (s.ti.l.flatMap cu))∧ai w wi.a (s.wi.l.flatMap aW))∧ai w nw.a (s.nw.l.flatMap aU))→ai w s.lk.fh.a (s.lk.fly.flatMap bX):=fun w hw=>by
    have hw:=hw.1.1.1.1.1.1.1
    exact hw.1.fl
   refine az.kN ae (ι:=Nat×Option Addr×Nat×List Value×List Value) ([16]++List.range' 259 17)
    (fun x=>x.1≤s.lk.fly.length∧cZ 2 x.1 x.2.1 x.2.2.1 x.2.2.2.1 ((s.lk.fly.take x.1).flatMap bX)∧x.2.2.2.2=aT ⟨s.T,s.D,s.q,⟨pr,s.pr.l⟩,s.nx,⟨cp,s.cp.l⟩,⟨gr,s.gr.l⟩,⟨ti,s.ti.l⟩,s.qu,s.pg,fun j=>⟨hs j,(s.sp j).l⟩,⟨wi,s.wi.l⟩,s.bk,s.dc,s.tr,⟨s.lk.pat,s.lk.now,s.lk.sent,s.lk.first,⟨x.2.1,x.2.2.1⟩,s.lk.fly.take x.1,s.lk.wh,s.lk.wait,s.lk.co,s.lk.ci⟩,default,0,default,fun _=>false,default,s.rc,s.ac,⟨nw,s.nw.l⟩⟩)
    (fun x=>[(259,.v (.int .i64 (x.1:Int)))]) (fun x=>⟨fun w=>((((((((s.Rows w∧s.nw.At aU w)∧∀ j,j<32→(⟨hs j,(s.sp j).l⟩:Sl Se).At bT w)∧ai w pr.a (s.pr.l.flatMap b_))∧ai w cp.a (s.cp.l.flatMap bx))∧ai w gr.a (s.gr.l.flatMap bM))∧ai w ti.a (s.ti.l.flatMap cu))∧ai w wi.a (s.wi.l.flatMap aW))∧ai w nw.a (s.nw.l.flatMap aU)),[(br,Row.c E),(b2,Row.c Z),(b3,Row.c x.2.2.2.2)]++bo x.2.1 x.2.2.2.1⟩)
    (fun x=>s.lk.fly.length - x.1) (0,none,0,[],O) ⟨Nat.zero_le _,cZ.nil 2,hO⟩ ?_ (ax.of_le ⟨List.Sublist.refl _,fun w hw=>hw⟩) fun x hx=>?_
   · conv=>whnf
     repeat (first | exact au.nil | refine au.any ?_ | refine au.cons ?_)
   clear hO
   obtain⟨i,afl,cfl,C,O⟩:=x
   obtain⟨hk,hOw,hO⟩:=hx
   dsimp only at hk hOw hO ⊢
   have hOl:O.length=376:=by rw[hO];exact ba _
   have hOs:O[326]? = some (.slice afl i cfl):=by
    have h1:(aT ⟨s.T,s.D,s.q,⟨pr,s.pr.l⟩,s.nx,⟨cp,s.cp.l⟩,⟨gr,s.gr.l⟩,⟨ti,s.ti.l⟩,s.qu,s.pg,fun j=>⟨hs j,(s.sp j).l⟩,⟨wi,s.wi.l⟩,s.bk,s.dc,s.tr,⟨s.lk.pat,s.lk.now,s.lk.sent,s.lk.first,⟨afl,cfl⟩,s.lk.fly.take i,s.lk.wh,s.lk.wait,s.lk.co,s.lk.ci⟩,default,0,default,fun _=>false,default,s.rc,s.ac,⟨nw,s.nw.l⟩⟩)[326]? = some (⟨⟨afl,cfl⟩,s.lk.fly.take i⟩:Sl BU).v:=by kernel_rfl
    rw[hO,h1]
    unfold Sl.v
    dsimp only
    rw[List.length_take,Nat.min_eq_left hk]
   conv=>whnf
   repeat (refine aa.of ?_;conv=>whnf)
   refine bF.split (fun hlt2=>?_) (fun hlt2=>?_)
   · have hk':i<s.lk.fly.length:=by
      simp only[ao,decide_eq_true_eq] at hlt2
      omega
     repeat' (first
      | (refine cj.row rfl ?_;conv=>whnf)
      | (refine az.draw ae mixed rfl rfl ?_;conv=>whnf)
      | (refine ak.aH ae rfl rfl (ad:=⟨b3,0,none⟩) (k:=326) (L:=O) (v:=.slice afl i cfl) (aK.row (List.Mem.tail _ (List.Mem.tail _ (List.Mem.head _)))) (fun _=>rfl) hOs ?_;conv=>whnf)
      | (refine ak.index ae rfl rfl rfl (by omega) (by omega) hho.nil fun ad had=>?_;conv=>whnf)
      | (refine ak.aQ ae rfl rfl (ad:=ad) (k:=i*2) (L:=s.lk.fly.flatMap bX) (m:=bX s.lk.fly[i]) (.fact fun w hw=>had ▸ hrow w hw) (by simp) (a8 (cf:=bX) (z:=2) (fun _=>rfl) hk') rfl ?_;conv=>whnf)
      | (refine ar.build ae rfl rfl rfl [.agg ⟨bX s.lk.fly[i]⟩] rfl rfl (by simp[Value.cells,bX]) (by decide) fun b5=>?_;conv=>whnf)
      | (refine ar.bZ (F':=⟨fun w=>((((((((s.Rows w∧s.nw.At aU w)∧∀ j,j<32→(⟨hs j,(s.sp j).l⟩:Sl Se).At bT w)∧ai w pr.a (s.pr.l.flatMap b_))∧ai w cp.a (s.cp.l.flatMap bx))∧ai w gr.a (s.gr.l.flatMap bM))∧ai w ti.a (s.ti.l.flatMap cu))∧ai w wi.a (s.wi.l.flatMap aW))∧ai w nw.a (s.nw.l.flatMap aU)),[(br,Row.c E),(b2,Row.c Z),(b3,Row.c O)]++bo afl C ++ [(b5,Row.c (bX s.lk.fly[i]))]⟩) (ax.of_le ⟨by simp[Value.cells],fun w hw=>hw⟩) ?_;refine ar.fk ae rfl rfl rfl rfl rfl rfl (r1:=[(br,Row.c E),(b2,Row.c Z),(b3,Row.c O)]) (r2:=[(b5,Row.c (bX s.lk.fly[i]))]) (M:=bX s.lk.fly[i]) hOw (aK.row (by simp)) rfl (List.all_eq_true.1 (show(bX s.lk.fly[i]).all a7=true from rfl)) (by omega) (by simp;omega) fun a' c' C' hO'=>?_;conv=>whnf)
      | (refine aP.bZ (F':=⟨fun w=>((((((((s.Rows w∧s.nw.At aU w)∧∀ j,j<32→(⟨hs j,(s.sp j).l⟩:Sl Se).At bT w)∧ai w pr.a (s.pr.l.flatMap b_))∧ai w cp.a (s.cp.l.flatMap bx))∧ai w gr.a (s.gr.l.flatMap bM))∧ai w ti.a (s.ti.l.flatMap cu))∧ai w wi.a (s.wi.l.flatMap aW))∧ai w nw.a (s.nw.l.flatMap aU)),[(br,Row.c E),(b2,Row.c Z)] ++ [(b3,Row.c O)]++([]++bo a' C' ++ [(b5,Row.c (bX s.lk.fly[i]))])⟩) (ax.of_le ⟨by simp,fun w hw=>hw⟩) ?_;refine aP.cO ae rfl (b:=b3) (k:=326) rfl rfl (by simp[Value.cells,a7]) (by rw[hOl];decide) ?_;conv=>whnf))
     have hv:(⟨⟨a',c'⟩,s.lk.fly.take (i+1)⟩:Sl BU).v = .slice a' (i+1) c':=by
      unfold Sl.v
      dsimp only
      rw[List.length_take,Nat.min_eq_left hk']
     have hlay:laid O 326 [.slice a' (i+1) c']=aT ⟨s.T,s.D,s.q,⟨pr,s.pr.l⟩,s.nx,⟨cp,s.cp.l⟩,⟨gr,s.gr.l⟩,⟨ti,s.ti.l⟩,s.qu,s.pg,fun j=>⟨hs j,(s.sp j).l⟩,⟨wi,s.wi.l⟩,s.bk,s.dc,s.tr,⟨s.lk.pat,s.lk.now,s.lk.sent,s.lk.first,⟨a',c'⟩,s.lk.fly.take (i+1),s.lk.wh,s.lk.wait,s.lk.co,s.lk.ci⟩,default,0,default,fun _=>false,default,s.rc,s.ac,⟨nw,s.nw.l⟩⟩:=by
      rw[← hv,hO]
      kernel_rfl
     refine⟨(i+1,a',c',C',aT ⟨s.T,s.D,s.q,⟨pr,s.pr.l⟩,s.nx,⟨cp,s.cp.l⟩,⟨gr,s.gr.l⟩,⟨ti,s.ti.l⟩,s.qu,s.pg,fun j=>⟨hs j,(s.sp j).l⟩,⟨wi,s.wi.l⟩,s.bk,s.dc,s.tr,⟨s.lk.pat,s.lk.now,s.lk.sent,s.lk.first,⟨a',c'⟩,s.lk.fly.take (i+1),s.lk.wh,s.lk.wait,s.lk.co,s.lk.ci⟩,default,0,default,fun _=>false,default,s.rc,s.ac,⟨nw,s.nw.l⟩⟩),⟨⟨hk',by dsimp only;rw[fg hk'];exact hO',rfl⟩,by dsimp only;omega⟩,?_,?_,?_⟩
     · conv=>whnf
       refine⟨?_,rfl⟩
       repeat (first | exact au.nil | refine au.any ?_ | refine au.cons ?_ | refine au.eq (by rw[wrap_i64 (by omega)];rfl) ?_)
     · conv=>whnf
       exact⟨⟨rfl,rfl⟩,⟨rfl,rfl⟩,⟨rfl,rfl⟩,trivial⟩
     · rw[← hlay]
       exact ax.of_le ⟨(List.Sublist.refl [_,_,_]).append (List.sublist_append_left _ _),fun w hw=>hw⟩
   · have hke:i=s.lk.fly.length:=by
      simp only[ao,decide_eq_false_iff_not] at hlt2
      omega
     subst hke
     rw[List.take_length] at hOw hO
     have hflO:(⟨afl,cfl⟩:Hd).Ok s.lk.fly.length:=⟨hOw.cJ,hOw.fit⟩
     have hEn:ax ⟨fun w=>((((((((s.Rows w∧s.nw.At aU w)∧∀ j,j<32→(⟨hs j,(s.sp j).l⟩:Sl Se).At bT w)∧ai w pr.a (s.pr.l.flatMap b_))∧ai w cp.a (s.cp.l.flatMap bx))∧ai w gr.a (s.gr.l.flatMap bM))∧ai w ti.a (s.ti.l.flatMap cu))∧ai w wi.a (s.wi.l.flatMap aW))∧ai w nw.a (s.nw.l.flatMap aU)),[(br,Row.c E),(b2,Row.c Z),(b3,Row.c O)]++bo afl C⟩ ⟨fun w=>(((((((((s.Rows w∧s.nw.At aU w)∧∀ j,j<32→(⟨hs j,(s.sp j).l⟩:Sl Se).At bT w)∧ai w pr.a (s.pr.l.flatMap b_))∧ai w cp.a (s.cp.l.flatMap bx))∧ai w gr.a (s.gr.l.flatMap bM))∧ai w ti.a (s.ti.l.flatMap cu))∧ai w wi.a (s.wi.l.flatMap aW))∧ai w nw.a (s.nw.l.flatMap aU))∧ai w afl (s.lk.fly.flatMap bX)),[(br,Row.c E),(b2,Row.c Z),(b3,Row.c O)]⟩:=
      ax.trans (ax.of_le (F':=⟨fun w=>((((((((s.Rows w∧s.nw.At aU w)∧∀ j,j<32→(⟨hs j,(s.sp j).l⟩:Sl Se).At bT w)∧ai w pr.a (s.pr.l.flatMap b_))∧ai w cp.a (s.cp.l.flatMap bx))∧ai w gr.a (s.gr.l.flatMap bM))∧ai w ti.a (s.ti.l.flatMap cu))∧ai w wi.a (s.wi.l.flatMap aW))∧ai w nw.a (s.nw.l.flatMap aU)),[(br,Row.c E),(b2,Row.c Z),(b3,Row.c O)]++bo afl C ++ []⟩) ⟨by simp,fun w hw=>hw⟩) (ax.trans (hOw.share (r1:=[(br,Row.c E),(b2,Row.c Z),(b3,Row.c O)]) (r2:=[])) (ax.of_le ⟨by simp,fun w hw=>hw⟩))
     clear hOs hlt2 hk hrow hho hle hOw hOl
     conv=>whnf
     repeat (refine aa.of ?_;conv=>whnf)
     first
      | refine⟨⟨⟨afl,cfl⟩,O⟩,⟨hflO,hO⟩,[0,1,2],⟨by decide,by simp,rfl⟩,?_,hEn⟩
     repeat (first | exact au.nil | refine au.any ?_ | refine au.cons ?_)
 · intro x hx bs' hbs'
   obtain⟨fl,O⟩:=x
   obtain⟨hfl,hO⟩:=hx
   rw[aS]
   exact CE s ho hm w0 av E hR Z hZ br b2 b3 hs hsO pr hpr cp hcp gr hgr ti hti wi hwi nw hnw fl hfl O hO bs' hbs'
theorem Di (s:bW) (ho:s.Ok) (hm:s.Small) (w0:World) (av:Nat→Prop) (E:List Value) (hR:dJ s E) (Z:List Value) (hZ:Z.length=376) (br b2 b3:Nat) (hs:Nat→Hd) (hsO : ∀ j,j<32→(⟨hs j,(s.sp j).l⟩:Sl Se).Ok) (pr:Hd) (hpr:pr.Ok s.pr.l.length) (cp:Hd) (hcp:cp.Ok s.cp.l.length) (gr:Hd) (hgr:gr.Ok s.gr.l.length) (ti:Hd) (hti:ti.Ok s.ti.l.length) (wi:Hd) (hwi:wi.Ok s.wi.l.length) (nw:Hd) (hnw:nw.Ok s.nw.l.length) (O:List Value) (hO:O=aT ⟨s.T,s.D,s.q,⟨pr,s.pr.l⟩,s.nx,⟨cp,s.cp.l⟩,⟨gr,s.gr.l⟩,⟨ti,s.ti.l⟩,s.qu,s.pg,fun j=>⟨hs j,(s.sp j).l⟩,⟨wi,s.wi.l⟩,s.bk,s.dc,s.tr,⟨s.lk.pat,s.lk.now,s.lk.sent,s.lk.first,Hd.nil,[],s.lk.wh,s.lk.wait,s.lk.co,default⟩,default,0,default,fun _=>false,default,s.rc,s.ac,⟨nw,s.nw.l⟩⟩) (bs:List (Nat×Nat)) (hbs:bs.length=3) :
 az Tryz.prog w0 (fun _ _=>False) av (cY 15 toCode) (dQ br b2 b3) bs [cE s.dc,dO s.lk,dZ s.se] ⟨fun w=>((((((((s.Rows w∧s.nw.At aU w)∧∀ j,j<32→(⟨hs j,(s.sp j).l⟩:Sl Se).At bT w)∧ai w pr.a (s.pr.l.flatMap b_))∧ai w cp.a (s.cp.l.flatMap bx))∧ai w gr.a (s.gr.l.flatMap bM))∧ai w ti.a (s.ti.l.flatMap cu))∧ai w wi.a (s.wi.l.flatMap aW))∧ai w nw.a (s.nw.l.flatMap aU)),[(br,Row.c E),(b2,Row.c Z),(b3,Row.c O)]⟩ (toEnd s):=by
 obtain⟨⟨c1,o1⟩,⟨c2,o2⟩,⟨c3,o3⟩,rfl⟩ : ∃ x y z,bs = [x,y,z]:=by
  rcases bs with _ | ⟨x,_ | ⟨y,_ | ⟨z,_ | ⟨u,r⟩⟩⟩⟩<;>simp at hbs
  exact⟨x,y,z,rfl⟩
 refine az.cr ae 1 (ι:=List Value) (fun x=>x=aT ⟨s.T,s.D,s.q,⟨pr,s.pr.l⟩,s.nx,⟨cp,s.cp.l⟩,⟨gr,s.gr.l⟩,⟨ti,s.ti.l⟩,s.qu,s.pg,fun j=>⟨hs j,(s.sp j).l⟩,⟨wi,s.wi.l⟩,s.bk,s.dc,s.tr,⟨s.lk.pat,s.lk.now,s.lk.sent,s.lk.first,Hd.nil,[],s.lk.wh,s.lk.wait,s.lk.co,s.lk.ci⟩,default,0,default,fun _=>false,default,s.rc,s.ac,⟨nw,s.nw.l⟩⟩) (fun x=>dQ br b2 b3) (fun x=>[cE s.dc,dO s.lk,dZ s.se]) (fun x=>⟨fun w=>((((((((s.Rows w∧s.nw.At aU w)∧∀ j,j<32→(⟨hs j,(s.sp j).l⟩:Sl Se).At bT w)∧ai w pr.a (s.pr.l.flatMap b_))∧ai w cp.a (s.cp.l.flatMap bx))∧ai w gr.a (s.gr.l.flatMap bM))∧ai w ti.a (s.ti.l.flatMap cu))∧ai w wi.a (s.wi.l.flatMap aW))∧ai w nw.a (s.nw.l.flatMap aU)),[(br,Row.c E),(b2,Row.c Z),(b3,Row.c x)]⟩) ?_ ?_
 · conv=>whnf
   repeat (refine aa.of ?_;conv=>whnf)
   have hOl:O.length=376:=by rw[hO];exact ba _
   refine aP.bZ (F':=⟨fun w=>((((((((s.Rows w∧s.nw.At aU w)∧∀ j,j<32→(⟨hs j,(s.sp j).l⟩:Sl Se).At bT w)∧ai w pr.a (s.pr.l.flatMap b_))∧ai w cp.a (s.cp.l.flatMap bx))∧ai w gr.a (s.gr.l.flatMap bM))∧ai w ti.a (s.ti.l.flatMap cu))∧ai w wi.a (s.wi.l.flatMap aW))∧ai w nw.a (s.nw.l.flatMap aU)),[(br,Row.c E),(b2,Row.c Z)] ++ [(b3,Row.c O)] ++ []⟩) (ax.of_le ⟨List.Sublist.refl _,fun w hw=>hw⟩) ?_
   refine aP.aX ae rfl (b:=b3) (k:=336) (X:=aT ⟨s.T,s.D,s.q,⟨pr,s.pr.l⟩,s.nx,⟨cp,s.cp.l⟩,⟨gr,s.gr.l⟩,⟨ti,s.ti.l⟩,s.qu,s.pg,fun j=>⟨hs j,(s.sp j).l⟩,⟨wi,s.wi.l⟩,s.bk,s.dc,s.tr,⟨s.lk.pat,s.lk.now,s.lk.sent,s.lk.first,Hd.nil,[],s.lk.wh,s.lk.wait,s.lk.co,s.lk.ci⟩,default,0,default,fun _=>false,default,s.rc,s.ac,⟨nw,s.nw.l⟩⟩) rfl rfl (List.all_eq_true.1 (by rfl)) (by rw[hOl];decide) (by rw[hO];kernel_rfl) ?_
   clear hO hOl
   obtain⟨O,hO⟩ : ∃ O,O=aT ⟨s.T,s.D,s.q,⟨pr,s.pr.l⟩,s.nx,⟨cp,s.cp.l⟩,⟨gr,s.gr.l⟩,⟨ti,s.ti.l⟩,s.qu,s.pg,fun j=>⟨hs j,(s.sp j).l⟩,⟨wi,s.wi.l⟩,s.bk,s.dc,s.tr,⟨s.lk.pat,s.lk.now,s.lk.sent,s.lk.first,Hd.nil,[],s.lk.wh,s.lk.wait,s.lk.co,s.lk.ci⟩,default,0,default,fun _=>false,default,s.rc,s.ac,⟨nw,s.nw.l⟩⟩:=⟨_,rfl⟩
   rw[← hO]
   conv=>whnf
   repeat (refine aa.of ?_;conv=>whnf)
   conv=>whnf
   repeat (refine aa.of ?_;conv=>whnf)
   first
    | refine⟨O,(by first | rfl),[0,1,2],⟨by decide,by simp,rfl⟩,?_,ax.refl _⟩
   repeat (first | exact au.nil | refine au.any ?_ | refine au.cons ?_)
 · intro x hx bs' hbs'
   have hO:=hx
   rw[aS]
   exact Cf s ho hm w0 av E hR Z hZ br b2 b3 hs hsO pr hpr cp hcp gr hgr ti hti wi hwi nw hnw x hO bs' hbs'
theorem DC (s:bW) (ho:s.Ok) (hm:s.Small) (w0:World) (av:Nat→Prop) (E:List Value) (hR:dJ s E) (Z:List Value) (hZ:Z.length=376) (br b2 b3:Nat) (hs:Nat→Hd) (hsO : ∀ j,j<32→(⟨hs j,(s.sp j).l⟩:Sl Se).Ok) (pr:Hd) (hpr:pr.Ok s.pr.l.length) (cp:Hd) (hcp:cp.Ok s.cp.l.length) (gr:Hd) (hgr:gr.Ok s.gr.l.length) (ti:Hd) (hti:ti.Ok s.ti.l.length) (wi:Hd) (hwi:wi.Ok s.wi.l.length) (nw:Hd) (hnw:nw.Ok s.nw.l.length) (O:List Value) (hO:O=aT ⟨s.T,s.D,s.q,⟨pr,s.pr.l⟩,s.nx,⟨cp,s.cp.l⟩,⟨gr,s.gr.l⟩,⟨ti,s.ti.l⟩,s.qu,s.pg,fun j=>⟨hs j,(s.sp j).l⟩,⟨wi,s.wi.l⟩,s.bk,s.dc,s.tr,⟨s.lk.pat,s.lk.now,s.lk.sent,s.lk.first,Hd.nil,[],s.lk.wh,s.lk.wait,default,default⟩,default,0,default,fun _=>false,default,s.rc,s.ac,⟨nw,s.nw.l⟩⟩) (bs:List (Nat×Nat)) (hbs:bs.length=3) :
 az Tryz.prog w0 (fun _ _=>False) av (cY 14 toCode) (dQ br b2 b3) bs [cE s.dc,dO s.lk,dZ s.se] ⟨fun w=>((((((((s.Rows w∧s.nw.At aU w)∧∀ j,j<32→(⟨hs j,(s.sp j).l⟩:Sl Se).At bT w)∧ai w pr.a (s.pr.l.flatMap b_))∧ai w cp.a (s.cp.l.flatMap bx))∧ai w gr.a (s.gr.l.flatMap bM))∧ai w ti.a (s.ti.l.flatMap cu))∧ai w wi.a (s.wi.l.flatMap aW))∧ai w nw.a (s.nw.l.flatMap aU)),[(br,Row.c E),(b2,Row.c Z),(b3,Row.c O)]⟩ (toEnd s):=by
 obtain⟨⟨c1,o1⟩,⟨c2,o2⟩,⟨c3,o3⟩,rfl⟩ : ∃ x y z,bs = [x,y,z]:=by
  rcases bs with _ | ⟨x,_ | ⟨y,_ | ⟨z,_ | ⟨u,r⟩⟩⟩⟩<;>simp at hbs
  exact⟨x,y,z,rfl⟩
 refine az.cr ae 1 (ι:=List Value) (fun x=>x=aT ⟨s.T,s.D,s.q,⟨pr,s.pr.l⟩,s.nx,⟨cp,s.cp.l⟩,⟨gr,s.gr.l⟩,⟨ti,s.ti.l⟩,s.qu,s.pg,fun j=>⟨hs j,(s.sp j).l⟩,⟨wi,s.wi.l⟩,s.bk,s.dc,s.tr,⟨s.lk.pat,s.lk.now,s.lk.sent,s.lk.first,Hd.nil,[],s.lk.wh,s.lk.wait,s.lk.co,default⟩,default,0,default,fun _=>false,default,s.rc,s.ac,⟨nw,s.nw.l⟩⟩) (fun x=>dQ br b2 b3) (fun x=>[cE s.dc,dO s.lk,dZ s.se]) (fun x=>⟨fun w=>((((((((s.Rows w∧s.nw.At aU w)∧∀ j,j<32→(⟨hs j,(s.sp j).l⟩:Sl Se).At bT w)∧ai w pr.a (s.pr.l.flatMap b_))∧ai w cp.a (s.cp.l.flatMap bx))∧ai w gr.a (s.gr.l.flatMap bM))∧ai w ti.a (s.ti.l.flatMap cu))∧ai w wi.a (s.wi.l.flatMap aW))∧ai w nw.a (s.nw.l.flatMap aU)),[(br,Row.c E),(b2,Row.c Z),(b3,Row.c x)]⟩) ?_ ?_
 · conv=>whnf
   repeat (refine aa.of ?_;conv=>whnf)
   have hOl:O.length=376:=by rw[hO];exact ba _
   refine aP.bZ (F':=⟨fun w=>((((((((s.Rows w∧s.nw.At aU w)∧∀ j,j<32→(⟨hs j,(s.sp j).l⟩:Sl Se).At bT w)∧ai w pr.a (s.pr.l.flatMap b_))∧ai w cp.a (s.cp.l.flatMap bx))∧ai w gr.a (s.gr.l.flatMap bM))∧ai w ti.a (s.ti.l.flatMap cu))∧ai w wi.a (s.wi.l.flatMap aW))∧ai w nw.a (s.nw.l.flatMap aU)),[(br,Row.c E),(b2,Row.c Z)] ++ [(b3,Row.c O)] ++ []⟩) (ax.of_le ⟨List.Sublist.refl _,fun w hw=>hw⟩) ?_
   refine aP.aX ae rfl (b:=b3) (k:=328) (X:=aT ⟨s.T,s.D,s.q,⟨pr,s.pr.l⟩,s.nx,⟨cp,s.cp.l⟩,⟨gr,s.gr.l⟩,⟨ti,s.ti.l⟩,s.qu,s.pg,fun j=>⟨hs j,(s.sp j).l⟩,⟨wi,s.wi.l⟩,s.bk,s.dc,s.tr,⟨s.lk.pat,s.lk.now,s.lk.sent,s.lk.first,Hd.nil,[],s.lk.wh,s.lk.wait,s.lk.co,default⟩,default,0,default,fun _=>false,default,s.rc,s.ac,⟨nw,s.nw.l⟩⟩) rfl rfl (List.all_eq_true.1 (by rfl)) (by rw[hOl];decide) (by rw[hO];kernel_rfl) ?_
   clear hO hOl
   obtain⟨O,hO⟩ : ∃ O,O=aT ⟨s.T,s.D,s.q,⟨pr,s.pr.l⟩,s.nx,⟨cp,s.cp.l⟩,⟨gr,s.gr.l⟩,⟨ti,s.ti.l⟩,s.qu,s.pg,fun j=>⟨hs j,(s.sp j).l⟩,⟨wi,s.wi.l⟩,s.bk,s.dc,s.tr,⟨s.lk.pat,s.lk.now,s.lk.sent,s.lk.first,Hd.nil,[],s.lk.wh,s.lk.wait,s.lk.co,default⟩,default,0,default,fun _=>false,default,s.rc,s.ac,⟨nw,s.nw.l⟩⟩:=⟨_,rfl⟩
   rw[← hO]
   conv=>whnf
   repeat (refine aa.of ?_;conv=>whnf)
   conv=>whnf
   repeat (refine aa.of ?_;conv=>whnf)
   first
    | refine⟨O,(by first | rfl),[0,1,2],⟨by decide,by simp,rfl⟩,?_,ax.refl _⟩
   repeat (first | exact au.nil | refine au.any ?_ | refine au.cons ?_)
 · intro x hx bs' hbs'
   have hO:=hx
   rw[aS]
   exact Di s ho hm w0 av E hR Z hZ br b2 b3 hs hsO pr hpr cp hcp gr hgr ti hti wi hwi nw hnw x hO bs' hbs'
theorem Dj (s:bW) (ho:s.Ok) (hm:s.Small) (w0:World) (av:Nat→Prop) (E:List Value) (hR:dJ s E) (Z:List Value) (hZ:Z.length=376) (br b2 b3:Nat) (hs:Nat→Hd) (hsO : ∀ j,j<32→(⟨hs j,(s.sp j).l⟩:Sl Se).Ok) (pr:Hd) (hpr:pr.Ok s.pr.l.length) (cp:Hd) (hcp:cp.Ok s.cp.l.length) (gr:Hd) (hgr:gr.Ok s.gr.l.length) (ti:Hd) (hti:ti.Ok s.ti.l.length) (wi:Hd) (hwi:wi.Ok s.wi.l.length) (nw:Hd) (hnw:nw.Ok s.nw.l.length) (O:List Value) (hO:O=aT ⟨s.T,s.D,s.q,⟨pr,s.pr.l⟩,s.nx,⟨cp,s.cp.l⟩,⟨gr,s.gr.l⟩,⟨ti,s.ti.l⟩,s.qu,s.pg,fun j=>⟨hs j,(s.sp j).l⟩,⟨wi,s.wi.l⟩,s.bk,s.dc,s.tr,⟨default,0,0,0,Hd.nil,[],Hd.nil,[],default,default⟩,default,0,default,fun _=>false,default,s.rc,s.ac,⟨nw,s.nw.l⟩⟩) (bs:List (Nat×Nat)) (hbs:bs.length=3) :
 az Tryz.prog w0 (fun _ _=>False) av (cY 13 toCode) (dQ br b2 b3) bs [cE s.dc,dO s.lk,dZ s.se] ⟨fun w=>((((((((s.Rows w∧s.nw.At aU w)∧∀ j,j<32→(⟨hs j,(s.sp j).l⟩:Sl Se).At bT w)∧ai w pr.a (s.pr.l.flatMap b_))∧ai w cp.a (s.cp.l.flatMap bx))∧ai w gr.a (s.gr.l.flatMap bM))∧ai w ti.a (s.ti.l.flatMap cu))∧ai w wi.a (s.wi.l.flatMap aW))∧ai w nw.a (s.nw.l.flatMap aU)),[(br,Row.c E),(b2,Row.c Z),(b3,Row.c O)]⟩ (toEnd s):=by
 obtain⟨⟨c1,o1⟩,⟨c2,o2⟩,⟨c3,o3⟩,rfl⟩ : ∃ x y z,bs = [x,y,z]:=by
  rcases bs with _ | ⟨x,_ | ⟨y,_ | ⟨z,_ | ⟨u,r⟩⟩⟩⟩<;>simp at hbs
  exact⟨x,y,z,rfl⟩
 refine az.cr ae 1 (ι:=List Value) (fun x=>x=aT ⟨s.T,s.D,s.q,⟨pr,s.pr.l⟩,s.nx,⟨cp,s.cp.l⟩,⟨gr,s.gr.l⟩,⟨ti,s.ti.l⟩,s.qu,s.pg,fun j=>⟨hs j,(s.sp j).l⟩,⟨wi,s.wi.l⟩,s.bk,s.dc,s.tr,⟨s.lk.pat,s.lk.now,s.lk.sent,s.lk.first,Hd.nil,[],s.lk.wh,s.lk.wait,default,default⟩,default,0,default,fun _=>false,default,s.rc,s.ac,⟨nw,s.nw.l⟩⟩) (fun x=>dQ br b2 b3) (fun x=>[cE s.dc,dO s.lk,dZ s.se]) (fun x=>⟨fun w=>((((((((s.Rows w∧s.nw.At aU w)∧∀ j,j<32→(⟨hs j,(s.sp j).l⟩:Sl Se).At bT w)∧ai w pr.a (s.pr.l.flatMap b_))∧ai w cp.a (s.cp.l.flatMap bx))∧ai w gr.a (s.gr.l.flatMap bM))∧ai w ti.a (s.ti.l.flatMap cu))∧ai w wi.a (s.wi.l.flatMap aW))∧ai w nw.a (s.nw.l.flatMap aU)),[(br,Row.c E),(b2,Row.c Z),(b3,Row.c x)]⟩) ?_ ?_
 · conv=>whnf
   repeat (refine aa.of ?_;conv=>whnf)
   obtain⟨X,hX⟩ : ∃ X,X=gp ⟨s.lk.pat,s.lk.now,s.lk.sent,s.lk.first,Hd.nil,[],s.lk.wh,s.lk.wait,default,default⟩:=⟨_,rfl⟩
   have hXl:X.length=22:=by rw[hX];rfl
   have hX1 : ∀ v∈X,a7 v=true:=by rw[hX];exact List.all_eq_true.1 rfl
   refine ar.aj (ak.fo ae rfl rfl (kE (n:=22) (X:=X) (by kernel_rfl) (by kernel_rfl) (by rw[hX];kernel_rfl) ?_))
   conv=>whnf
   repeat (refine aa.of ?_;conv=>whnf)
   have hOl:O.length=376:=by rw[hO];exact ba _
   refine aP.bZ (F':=⟨fun w=>((((((((s.Rows w∧s.nw.At aU w)∧∀ j,j<32→(⟨hs j,(s.sp j).l⟩:Sl Se).At bT w)∧ai w pr.a (s.pr.l.flatMap b_))∧ai w cp.a (s.cp.l.flatMap bx))∧ai w gr.a (s.gr.l.flatMap bM))∧ai w ti.a (s.ti.l.flatMap cu))∧ai w wi.a (s.wi.l.flatMap aW))∧ai w nw.a (s.nw.l.flatMap aU)),[(br,Row.c E),(b2,Row.c Z)] ++ [(b3,Row.c O)] ++ []⟩) (ax.of_le ⟨List.Sublist.refl _,fun w hw=>hw⟩) ?_
   refine aP.aX ae rfl (b:=b3) (k:=322) (X:=aT ⟨s.T,s.D,s.q,⟨pr,s.pr.l⟩,s.nx,⟨cp,s.cp.l⟩,⟨gr,s.gr.l⟩,⟨ti,s.ti.l⟩,s.qu,s.pg,fun j=>⟨hs j,(s.sp j).l⟩,⟨wi,s.wi.l⟩,s.bk,s.dc,s.tr,⟨s.lk.pat,s.lk.now,s.lk.sent,s.lk.first,Hd.nil,[],s.lk.wh,s.lk.wait,default,default⟩,default,0,default,fun _=>false,default,s.rc,s.ac,⟨nw,s.nw.l⟩⟩) rfl (by exact hXl) (by exact hX1) (by rw[hOl];decide) (by show laid O 322 X=_;rw[hO,hX];kernel_rfl) ?_
   clear hO hOl
   obtain⟨O,hO⟩ : ∃ O,O=aT ⟨s.T,s.D,s.q,⟨pr,s.pr.l⟩,s.nx,⟨cp,s.cp.l⟩,⟨gr,s.gr.l⟩,⟨ti,s.ti.l⟩,s.qu,s.pg,fun j=>⟨hs j,(s.sp j).l⟩,⟨wi,s.wi.l⟩,s.bk,s.dc,s.tr,⟨s.lk.pat,s.lk.now,s.lk.sent,s.lk.first,Hd.nil,[],s.lk.wh,s.lk.wait,default,default⟩,default,0,default,fun _=>false,default,s.rc,s.ac,⟨nw,s.nw.l⟩⟩:=⟨_,rfl⟩
   rw[← hO]
   clear hXl hX1
   conv=>whnf
   repeat (refine aa.of ?_;conv=>whnf)
   conv=>whnf
   repeat (refine aa.of ?_;conv=>whnf)
   first
    | refine⟨O,(by first | rfl),[0,1,2],⟨by decide,by simp,rfl⟩,?_,ax.refl _⟩
   repeat (first | exact au.nil | refine au.any ?_ | refine au.cons ?_)
 · intro x hx bs' hbs'
   have hO:=hx
   rw[aS]
   exact DC s ho hm w0 av E hR Z hZ br b2 b3 hs hsO pr hpr cp hcp gr hgr ti hti wi hwi nw hnw x hO bs' hbs'
theorem Ds (s:bW) (ho:s.Ok) (hm:s.Small) (w0:World) (av:Nat→Prop) (E:List Value) (hR:dJ s E) (Z:List Value) (hZ:Z.length=376) (br b2 b3:Nat) (hs:Nat→Hd) (hsO : ∀ j,j<32→(⟨hs j,(s.sp j).l⟩:Sl Se).Ok) (pr:Hd) (hpr:pr.Ok s.pr.l.length) (cp:Hd) (hcp:cp.Ok s.cp.l.length) (gr:Hd) (hgr:gr.Ok s.gr.l.length) (ti:Hd) (hti:ti.Ok s.ti.l.length) (wi:Hd) (hwi:wi.Ok s.wi.l.length) (nw:Hd) (hnw:nw.Ok s.nw.l.length) (O:List Value) (hO:O=aT ⟨s.T,s.D,s.q,⟨pr,s.pr.l⟩,s.nx,⟨cp,s.cp.l⟩,⟨gr,s.gr.l⟩,⟨ti,s.ti.l⟩,s.qu,s.pg,fun j=>⟨hs j,(s.sp j).l⟩,⟨wi,s.wi.l⟩,default,default,s.tr,⟨default,0,0,0,Hd.nil,[],Hd.nil,[],default,default⟩,default,0,default,fun _=>false,default,s.rc,s.ac,⟨nw,s.nw.l⟩⟩) (bs:List (Nat×Nat)) (hbs:bs.length=3) :
 az Tryz.prog w0 (fun _ _=>False) av (cY 12 toCode) (dQ br b2 b3) bs [cE s.dc,dO s.lk,dZ s.se] ⟨fun w=>((((((((s.Rows w∧s.nw.At aU w)∧∀ j,j<32→(⟨hs j,(s.sp j).l⟩:Sl Se).At bT w)∧ai w pr.a (s.pr.l.flatMap b_))∧ai w cp.a (s.cp.l.flatMap bx))∧ai w gr.a (s.gr.l.flatMap bM))∧ai w ti.a (s.ti.l.flatMap cu))∧ai w wi.a (s.wi.l.flatMap aW))∧ai w nw.a (s.nw.l.flatMap aU)),[(br,Row.c E),(b2,Row.c Z),(b3,Row.c O)]⟩ (toEnd s):=by
 obtain⟨⟨c1,o1⟩,⟨c2,o2⟩,⟨c3,o3⟩,rfl⟩ : ∃ x y z,bs = [x,y,z]:=by
  rcases bs with _ | ⟨x,_ | ⟨y,_ | ⟨z,_ | ⟨u,r⟩⟩⟩⟩<;>simp at hbs
  exact⟨x,y,z,rfl⟩
 refine az.cr ae 1 (ι:=List Value) (fun x=>x=aT ⟨s.T,s.D,s.q,⟨pr,s.pr.l⟩,s.nx,⟨cp,s.cp.l⟩,⟨gr,s.gr.l⟩,⟨ti,s.ti.l⟩,s.qu,s.pg,fun j=>⟨hs j,(s.sp j).l⟩,⟨wi,s.wi.l⟩,s.bk,s.dc,s.tr,⟨default,0,0,0,Hd.nil,[],Hd.nil,[],default,default⟩,default,0,default,fun _=>false,default,s.rc,s.ac,⟨nw,s.nw.l⟩⟩) (fun x=>dQ br b2 b3) (fun x=>[cE s.dc,dO s.lk,dZ s.se]) (fun x=>⟨fun w=>((((((((s.Rows w∧s.nw.At aU w)∧∀ j,j<32→(⟨hs j,(s.sp j).l⟩:Sl Se).At bT w)∧ai w pr.a (s.pr.l.flatMap b_))∧ai w cp.a (s.cp.l.flatMap bx))∧ai w gr.a (s.gr.l.flatMap bM))∧ai w ti.a (s.ti.l.flatMap cu))∧ai w wi.a (s.wi.l.flatMap aW))∧ai w nw.a (s.nw.l.flatMap aU)),[(br,Row.c E),(b2,Row.c Z),(b3,Row.c x)]⟩) ?_ ?_
 · conv=>whnf
   repeat (refine aa.of ?_;conv=>whnf)
   refine ar.aj (ak.aH ae rfl rfl (ad:=⟨br,0,none⟩) (k:=308) (L:=E) (v:=s.bk.v) (aK.row (List.Mem.head _)) (fun _=>rfl) hR.eBk ?_)
   conv=>whnf
   repeat (refine aa.of ?_;conv=>whnf)
   have hOl:O.length=376:=by rw[hO];exact ba _
   refine aP.bZ (F':=⟨fun w=>((((((((s.Rows w∧s.nw.At aU w)∧∀ j,j<32→(⟨hs j,(s.sp j).l⟩:Sl Se).At bT w)∧ai w pr.a (s.pr.l.flatMap b_))∧ai w cp.a (s.cp.l.flatMap bx))∧ai w gr.a (s.gr.l.flatMap bM))∧ai w ti.a (s.ti.l.flatMap cu))∧ai w wi.a (s.wi.l.flatMap aW))∧ai w nw.a (s.nw.l.flatMap aU)),[(br,Row.c E),(b2,Row.c Z)] ++ [(b3,Row.c O)] ++ []⟩) (ax.of_le ⟨List.Sublist.refl _,fun w hw=>hw⟩) ?_
   refine aP.aX ae rfl (b:=b3) (k:=308) (X:=aT ⟨s.T,s.D,s.q,⟨pr,s.pr.l⟩,s.nx,⟨cp,s.cp.l⟩,⟨gr,s.gr.l⟩,⟨ti,s.ti.l⟩,s.qu,s.pg,fun j=>⟨hs j,(s.sp j).l⟩,⟨wi,s.wi.l⟩,s.bk,s.dc,s.tr,⟨default,0,0,0,Hd.nil,[],Hd.nil,[],default,default⟩,default,0,default,fun _=>false,default,s.rc,s.ac,⟨nw,s.nw.l⟩⟩) rfl rfl (List.all_eq_true.1 (by rfl)) (by rw[hOl];decide) (by rw[hO];kernel_rfl) ?_
   clear hO hOl
   obtain⟨O,hO⟩ : ∃ O,O=aT ⟨s.T,s.D,s.q,⟨pr,s.pr.l⟩,s.nx,⟨cp,s.cp.l⟩,⟨gr,s.gr.l⟩,⟨ti,s.ti.l⟩,s.qu,s.pg,fun j=>⟨hs j,(s.sp j).l⟩,⟨wi,s.wi.l⟩,s.bk,s.dc,s.tr,⟨default,0,0,0,Hd.nil,[],Hd.nil,[],default,default⟩,default,0,default,fun _=>false,default,s.rc,s.ac,⟨nw,s.nw.l⟩⟩:=⟨_,rfl⟩
   rw[← hO]
   conv=>whnf
   repeat (refine aa.of ?_;conv=>whnf)
   conv=>whnf
   repeat (refine aa.of ?_;conv=>whnf)
   first
    | refine⟨O,(by first | rfl),[0,1,2],⟨by decide,by simp,rfl⟩,?_,ax.refl _⟩
   repeat (first | exact au.nil | refine au.any ?_ | refine au.cons ?_)
 · intro x hx bs' hbs'
   have hO:=hx
   rw[aS]
   exact Dj s ho hm w0 av E hR Z hZ br b2 b3 hs hsO pr hpr cp hcp gr hgr ti hti wi hwi nw hnw x hO bs' hbs'
theorem Dw (s:bW) (ho:s.Ok) (hm:s.Small) (w0:World) (av:Nat→Prop) (E:List Value) (hR:dJ s E) (Z:List Value) (hZ:Z.length=376) (br b2 b3:Nat) (hs:Nat→Hd) (hsO : ∀ j,j<32→(⟨hs j,(s.sp j).l⟩:Sl Se).Ok) (pr:Hd) (hpr:pr.Ok s.pr.l.length) (cp:Hd) (hcp:cp.Ok s.cp.l.length) (gr:Hd) (hgr:gr.Ok s.gr.l.length) (ti:Hd) (hti:ti.Ok s.ti.l.length) (wi:Hd) (hwi:wi.Ok s.wi.l.length) (nw:Hd) (hnw:nw.Ok s.nw.l.length) (O:List Value) (hO:O=aT ⟨s.T,s.D,s.q,⟨pr,s.pr.l⟩,s.nx,⟨cp,s.cp.l⟩,⟨gr,s.gr.l⟩,⟨ti,s.ti.l⟩,s.qu,s.pg,fun j=>⟨hs j,(s.sp j).l⟩,⟨wi,s.wi.l⟩,default,default,s.tr,⟨default,0,0,0,Hd.nil,[],Hd.nil,[],default,default⟩,default,0,default,fun _=>false,default,s.rc,s.ac,⟨nw,s.nw.l⟩⟩) (bs:List (Nat×Nat)) (hbs:bs.length=0) :
 az Tryz.prog w0 (fun _ _=>False) av (cY 11 toCode) (uf br b2 b3) bs [] ⟨fun w=>((((((((s.Rows w∧s.nw.At aU w)∧∀ j,j<32→(⟨hs j,(s.sp j).l⟩:Sl Se).At bT w)∧ai w pr.a (s.pr.l.flatMap b_))∧ai w cp.a (s.cp.l.flatMap bx))∧ai w gr.a (s.gr.l.flatMap bM))∧ai w ti.a (s.ti.l.flatMap cu))∧ai w wi.a (s.wi.l.flatMap aW))∧ai w nw.a (s.nw.l.flatMap aU)),[(br,Row.c E),(b2,Row.c Z),(b3,Row.c O)]⟩ (toEnd s):=by
 obtain rfl:bs = []:=List.length_eq_zero_iff.1 hbs
 refine az.cr ae 1 (ι:=List Value) (fun x=>x=aT ⟨s.T,s.D,s.q,⟨pr,s.pr.l⟩,s.nx,⟨cp,s.cp.l⟩,⟨gr,s.gr.l⟩,⟨ti,s.ti.l⟩,s.qu,s.pg,fun j=>⟨hs j,(s.sp j).l⟩,⟨wi,s.wi.l⟩,default,default,s.tr,⟨default,0,0,0,Hd.nil,[],Hd.nil,[],default,default⟩,default,0,default,fun _=>false,default,s.rc,s.ac,⟨nw,s.nw.l⟩⟩) (fun x=>dQ br b2 b3) (fun x=>[cE s.dc,dO s.lk,dZ s.se]) (fun x=>⟨fun w=>((((((((s.Rows w∧s.nw.At aU w)∧∀ j,j<32→(⟨hs j,(s.sp j).l⟩:Sl Se).At bT w)∧ai w pr.a (s.pr.l.flatMap b_))∧ai w cp.a (s.cp.l.flatMap bx))∧ai w gr.a (s.gr.l.flatMap bM))∧ai w ti.a (s.ti.l.flatMap cu))∧ai w wi.a (s.wi.l.flatMap aW))∧ai w nw.a (s.nw.l.flatMap aU)),[(br,Row.c E),(b2,Row.c Z),(b3,Row.c x)]⟩) ?_ ?_
 · conv=>whnf
   repeat (refine aa.of ?_;conv=>whnf)
   repeat' (first
    | (refine And.intro ?_ ?_<;>conv=>whnf)
    | (refine cj.same rfl ?_;conv=>whnf)
    | (refine az.draw ae mixed rfl rfl ?_;conv=>whnf)
    | (refine ak.aQ ae rfl rfl (ad:=⟨br,0,none⟩) (k:=309) (L:=E) (m:=cE s.dc) (aK.row (List.Mem.head _)) rfl hR.eCh rfl ?_;conv=>whnf)
    | (refine ak.aQ ae rfl rfl (ad:=⟨br,0,none⟩) (k:=322) (L:=E) (m:=dO s.lk) (aK.row (List.Mem.head _)) rfl hR.eLk rfl ?_;conv=>whnf)
    | (refine ak.aQ ae rfl rfl (ad:=⟨br,0,none⟩) (k:=346) (L:=E) (m:=dZ s.se) (aK.row (List.Mem.head _)) rfl hR.eSe rfl ?_;conv=>whnf)
    | (intro b13;conv=>whnf))
   all_goals
    conv=>whnf
    repeat (refine aa.of ?_;conv=>whnf)
    first
     | refine⟨O,(by first | exact hO | rfl),[0,1,2],⟨by decide,by simp,rfl⟩,?_,ax.refl _⟩
     | refine⟨O,(by first | exact hO | rfl),[0,2,1],⟨by decide,by simp,rfl⟩,?_,ax.refl _⟩
     | refine⟨O,(by first | exact hO | rfl),[1,0,2],⟨by decide,by simp,rfl⟩,?_,ax.refl _⟩
     | refine⟨O,(by first | exact hO | rfl),[1,2,0],⟨by decide,by simp,rfl⟩,?_,ax.refl _⟩
     | refine⟨O,(by first | exact hO | rfl),[2,0,1],⟨by decide,by simp,rfl⟩,?_,ax.refl _⟩
     | refine⟨O,(by first | exact hO | rfl),[2,1,0],⟨by decide,by simp,rfl⟩,?_,ax.refl _⟩
    repeat (first | exact au.nil | refine au.any ?_ | refine au.cons ?_)
 · intro x hx bs' hbs'
   have hO:=hx
   rw[aS]
   exact Ds s ho hm w0 av E hR Z hZ br b2 b3 hs hsO pr hpr cp hcp gr hgr ti hti wi hwi nw hnw x hO bs' hbs'
theorem DH (s:bW) (ho:s.Ok) (hm:s.Small) (w0:World) (av:Nat→Prop) (E:List Value) (hR:dJ s E) (Z:List Value) (hZ:Z.length=376) (br b2 b3:Nat) (hs:Nat→Hd) (hsO : ∀ j,j<32→(⟨hs j,(s.sp j).l⟩:Sl Se).Ok) (pr:Hd) (hpr:pr.Ok s.pr.l.length) (cp:Hd) (hcp:cp.Ok s.cp.l.length) (gr:Hd) (hgr:gr.Ok s.gr.l.length) (ti:Hd) (hti:ti.Ok s.ti.l.length) (O:List Value) (hO:O=aT ⟨s.T,s.D,s.q,⟨pr,s.pr.l⟩,s.nx,⟨cp,s.cp.l⟩,⟨gr,s.gr.l⟩,⟨ti,s.ti.l⟩,s.qu,s.pg,fun j=>⟨hs j,(s.sp j).l⟩,default,default,default,s.tr,⟨default,0,0,0,Hd.nil,[],Hd.nil,[],default,default⟩,default,0,default,fun _=>false,default,s.rc,s.ac,default⟩) (bs:List (Nat×Nat)) (hbs:bs.length=0) :
 az Tryz.prog w0 (fun _ _=>False) av (cY 9 toCode) (uf br b2 b3) bs [] ⟨fun w=>((((((s.Rows w∧s.nw.At aU w)∧∀ j,j<32→(⟨hs j,(s.sp j).l⟩:Sl Se).At bT w)∧ai w pr.a (s.pr.l.flatMap b_))∧ai w cp.a (s.cp.l.flatMap bx))∧ai w gr.a (s.gr.l.flatMap bM))∧ai w ti.a (s.ti.l.flatMap cu)),[(br,Row.c E),(b2,Row.c Z),(b3,Row.c O)]⟩ (toEnd s):=by
 obtain rfl:bs = []:=List.length_eq_zero_iff.1 hbs
 refine az.cr ae 2 (ι:=Hd×Hd×List Value) (fun x=>(x.1).Ok s.wi.l.length∧(x.2.1).Ok s.nw.l.length∧x.2.2=aT ⟨s.T,s.D,s.q,⟨pr,s.pr.l⟩,s.nx,⟨cp,s.cp.l⟩,⟨gr,s.gr.l⟩,⟨ti,s.ti.l⟩,s.qu,s.pg,fun j=>⟨hs j,(s.sp j).l⟩,⟨x.1,s.wi.l⟩,default,default,s.tr,⟨default,0,0,0,Hd.nil,[],Hd.nil,[],default,default⟩,default,0,default,fun _=>false,default,s.rc,s.ac,⟨x.2.1,s.nw.l⟩⟩) (fun x=>uf br b2 b3) (fun x=>[]) (fun x=>⟨fun w=>((((((((s.Rows w∧s.nw.At aU w)∧∀ j,j<32→(⟨hs j,(s.sp j).l⟩:Sl Se).At bT w)∧ai w pr.a (s.pr.l.flatMap b_))∧ai w cp.a (s.cp.l.flatMap bx))∧ai w gr.a (s.gr.l.flatMap bM))∧ai w ti.a (s.ti.l.flatMap cu))∧ai w x.1.a (s.wi.l.flatMap aW))∧ai w x.2.1.a (s.nw.l.flatMap aU)),[(br,Row.c E),(b2,Row.c Z),(b3,Row.c x.2.2)]⟩) ?_ ?_
 · conv=>whnf
   repeat (refine aa.of ?_;conv=>whnf)
   refine ar.aj (ak.aH ae rfl rfl (ad:=⟨br,0,none⟩) (k:=307) (L:=E) (v:=s.wi.h.v s.wi.l.length) (aK.row (List.Mem.head _)) (fun _=>rfl) hR.eWi ?_)
   conv=>whnf
   repeat (refine aa.of ?_;conv=>whnf)
   obtain⟨hho,hle⟩:s.wi.h.Ok s.wi.l.length∧s.wi.l.length≤1000000:=⟨ho.wi.h,hm.wi⟩
   have hrow : ∀ w,((((((s.Rows w∧s.nw.At aU w)∧∀ j,j<32→(⟨hs j,(s.sp j).l⟩:Sl Se).At bT w)∧ai w pr.a (s.pr.l.flatMap b_))∧ai w cp.a (s.cp.l.flatMap bx))∧ai w gr.a (s.gr.l.flatMap bM))∧ai w ti.a (s.ti.l.flatMap cu))→ai w s.wi.h.a (s.wi.l.flatMap aW):=fun w hw=>by
    have hw:=hw.1.1.1.1.1
    exact hw.1.wi
   refine az.kN ae (ι:=Nat×Option Addr×Nat×List Value×List Value) ([11]++List.range' 168 14)
    (fun x=>x.1≤s.wi.l.length∧cZ 4 x.1 x.2.1 x.2.2.1 x.2.2.2.1 ((s.wi.l.take x.1).flatMap aW)∧x.2.2.2.2=aT ⟨s.T,s.D,s.q,⟨pr,s.pr.l⟩,s.nx,⟨cp,s.cp.l⟩,⟨gr,s.gr.l⟩,⟨ti,s.ti.l⟩,s.qu,s.pg,fun j=>⟨hs j,(s.sp j).l⟩,⟨⟨x.2.1,x.2.2.1⟩,s.wi.l.take x.1⟩,default,default,s.tr,⟨default,0,0,0,Hd.nil,[],Hd.nil,[],default,default⟩,default,0,default,fun _=>false,default,s.rc,s.ac,default⟩)
    (fun x=>[(168,.v (.int .i64 (x.1:Int)))]) (fun x=>⟨fun w=>((((((s.Rows w∧s.nw.At aU w)∧∀ j,j<32→(⟨hs j,(s.sp j).l⟩:Sl Se).At bT w)∧ai w pr.a (s.pr.l.flatMap b_))∧ai w cp.a (s.cp.l.flatMap bx))∧ai w gr.a (s.gr.l.flatMap bM))∧ai w ti.a (s.ti.l.flatMap cu)),[(br,Row.c E),(b2,Row.c Z),(b3,Row.c x.2.2.2.2)]++bo x.2.1 x.2.2.2.1⟩)
    (fun x=>s.wi.l.length - x.1) (0,none,0,[],O) ⟨Nat.zero_le _,cZ.nil 4,hO⟩ ?_ (ax.of_le ⟨List.Sublist.refl _,fun w hw=>hw⟩) fun x hx=>?_
   · conv=>whnf
     repeat (first | exact au.nil | refine au.any ?_ | refine au.cons ?_)
   clear hO
   obtain⟨i,awi,cwi,C,O⟩:=x
   obtain⟨hk,hOw,hO⟩:=hx
   dsimp only at hk hOw hO ⊢
   have hOl:O.length=376:=by rw[hO];exact ba _
   have hOs:O[307]? = some (.slice awi i cwi):=by
    have h1:(aT ⟨s.T,s.D,s.q,⟨pr,s.pr.l⟩,s.nx,⟨cp,s.cp.l⟩,⟨gr,s.gr.l⟩,⟨ti,s.ti.l⟩,s.qu,s.pg,fun j=>⟨hs j,(s.sp j).l⟩,⟨⟨awi,cwi⟩,s.wi.l.take i⟩,default,default,s.tr,⟨default,0,0,0,Hd.nil,[],Hd.nil,[],default,default⟩,default,0,default,fun _=>false,default,s.rc,s.ac,default⟩)[307]? = some (⟨⟨awi,cwi⟩,s.wi.l.take i⟩:Sl nG).v:=by kernel_rfl
    rw[hO,h1]
    unfold Sl.v
    dsimp only
    rw[List.length_take,Nat.min_eq_left hk]
   conv=>whnf
   repeat (refine aa.of ?_;conv=>whnf)
   refine bF.split (fun hlt2=>?_) (fun hlt2=>?_)
   · have hk':i<s.wi.l.length:=by
      simp only[ao,decide_eq_true_eq] at hlt2
      omega
     repeat' (first
      | (refine cj.row rfl ?_;conv=>whnf)
      | (refine az.draw ae mixed rfl rfl ?_;conv=>whnf)
      | (refine ak.aH ae rfl rfl (ad:=⟨b3,0,none⟩) (k:=307) (L:=O) (v:=.slice awi i cwi) (aK.row (List.Mem.tail _ (List.Mem.tail _ (List.Mem.head _)))) (fun _=>rfl) hOs ?_;conv=>whnf)
      | (refine ak.aH ae rfl rfl (ad:=⟨br,0,none⟩) (k:=307) (L:=E) (v:=s.wi.h.v s.wi.l.length) (aK.row (List.Mem.head _)) (fun _=>rfl) hR.eWi ?_;conv=>whnf)
      | (refine ak.index ae rfl rfl rfl (by omega) (by omega) hho.nil fun ad had=>?_;conv=>whnf)
      | (refine ak.aQ ae rfl rfl (ad:=ad) (k:=i*4) (L:=s.wi.l.flatMap aW) (m:=aW s.wi.l[i]) (.fact fun w hw=>had ▸ hrow w hw) (by simp) (a8 (cf:=aW) (z:=4) (fun _=>rfl) hk') rfl ?_;conv=>whnf)
      | (refine ar.build ae rfl rfl rfl [.agg ⟨aW s.wi.l[i]⟩] rfl rfl (by simp[Value.cells,aW]) (by decide) fun b5=>?_;conv=>whnf)
      | (refine ar.bZ (F':=⟨fun w=>((((((s.Rows w∧s.nw.At aU w)∧∀ j,j<32→(⟨hs j,(s.sp j).l⟩:Sl Se).At bT w)∧ai w pr.a (s.pr.l.flatMap b_))∧ai w cp.a (s.cp.l.flatMap bx))∧ai w gr.a (s.gr.l.flatMap bM))∧ai w ti.a (s.ti.l.flatMap cu)),[(br,Row.c E),(b2,Row.c Z),(b3,Row.c O)]++bo awi C ++ [(b5,Row.c (aW s.wi.l[i]))]⟩) (ax.of_le ⟨by simp[Value.cells],fun w hw=>hw⟩) ?_;refine ar.append ae rfl rfl rfl rfl rfl rfl (r1:=[(br,Row.c E),(b2,Row.c Z),(b3,Row.c O)]) (r2:=[(b5,Row.c (aW s.wi.l[i]))]) (M:=aW s.wi.l[i]) hOw (aK.row (by simp)) rfl (List.all_eq_true.1 (show(aW s.wi.l[i]).all a7=true from rfl)) (by omega) (by simp;omega) fun a' c' C' hO'=>?_;conv=>whnf)
      | (refine aP.bZ (F':=⟨fun w=>((((((s.Rows w∧s.nw.At aU w)∧∀ j,j<32→(⟨hs j,(s.sp j).l⟩:Sl Se).At bT w)∧ai w pr.a (s.pr.l.flatMap b_))∧ai w cp.a (s.cp.l.flatMap bx))∧ai w gr.a (s.gr.l.flatMap bM))∧ai w ti.a (s.ti.l.flatMap cu)),[(br,Row.c E),(b2,Row.c Z)] ++ [(b3,Row.c O)]++([]++bo a' C' ++ [(b5,Row.c (aW s.wi.l[i]))])⟩) (ax.of_le ⟨by simp,fun w hw=>hw⟩) ?_;refine aP.cO ae rfl (b:=b3) (k:=307) rfl rfl (by simp[Value.cells,a7]) (by rw[hOl];decide) ?_;conv=>whnf))
     have hv:(⟨⟨a',c'⟩,s.wi.l.take (i+1)⟩:Sl nG).v = .slice a' (i+1) c':=by
      unfold Sl.v
      dsimp only
      rw[List.length_take,Nat.min_eq_left hk']
     have hlay:laid O 307 [.slice a' (i+1) c']=aT ⟨s.T,s.D,s.q,⟨pr,s.pr.l⟩,s.nx,⟨cp,s.cp.l⟩,⟨gr,s.gr.l⟩,⟨ti,s.ti.l⟩,s.qu,s.pg,fun j=>⟨hs j,(s.sp j).l⟩,⟨⟨a',c'⟩,s.wi.l.take (i+1)⟩,default,default,s.tr,⟨default,0,0,0,Hd.nil,[],Hd.nil,[],default,default⟩,default,0,default,fun _=>false,default,s.rc,s.ac,default⟩:=by
      rw[← hv,hO]
      kernel_rfl
     refine⟨(i+1,a',c',C',aT ⟨s.T,s.D,s.q,⟨pr,s.pr.l⟩,s.nx,⟨cp,s.cp.l⟩,⟨gr,s.gr.l⟩,⟨ti,s.ti.l⟩,s.qu,s.pg,fun j=>⟨hs j,(s.sp j).l⟩,⟨⟨a',c'⟩,s.wi.l.take (i+1)⟩,default,default,s.tr,⟨default,0,0,0,Hd.nil,[],Hd.nil,[],default,default⟩,default,0,default,fun _=>false,default,s.rc,s.ac,default⟩),⟨⟨hk',by dsimp only;rw[fg hk'];exact hO',rfl⟩,by dsimp only;omega⟩,?_,?_,?_⟩
     · conv=>whnf
       refine⟨?_,rfl⟩
       repeat (first | exact au.nil | refine au.any ?_ | refine au.cons ?_ | refine au.eq (by rw[wrap_i64 (by omega)];rfl) ?_)
     · conv=>whnf
       exact trivial
     · rw[← hlay]
       exact ax.of_le ⟨(List.Sublist.refl [_,_,_]).append (List.sublist_append_left _ _),fun w hw=>hw⟩
   · have hke:i=s.wi.l.length:=by
      simp only[ao,decide_eq_false_iff_not] at hlt2
      omega
     subst hke
     rw[List.take_length] at hOw hO
     have hwiO:(⟨awi,cwi⟩:Hd).Ok s.wi.l.length:=⟨hOw.cJ,hOw.fit⟩
     have hEn:ax ⟨fun w=>((((((s.Rows w∧s.nw.At aU w)∧∀ j,j<32→(⟨hs j,(s.sp j).l⟩:Sl Se).At bT w)∧ai w pr.a (s.pr.l.flatMap b_))∧ai w cp.a (s.cp.l.flatMap bx))∧ai w gr.a (s.gr.l.flatMap bM))∧ai w ti.a (s.ti.l.flatMap cu)),[(br,Row.c E),(b2,Row.c Z),(b3,Row.c O)]++bo awi C⟩ ⟨fun w=>(((((((s.Rows w∧s.nw.At aU w)∧∀ j,j<32→(⟨hs j,(s.sp j).l⟩:Sl Se).At bT w)∧ai w pr.a (s.pr.l.flatMap b_))∧ai w cp.a (s.cp.l.flatMap bx))∧ai w gr.a (s.gr.l.flatMap bM))∧ai w ti.a (s.ti.l.flatMap cu))∧ai w awi (s.wi.l.flatMap aW)),[(br,Row.c E),(b2,Row.c Z),(b3,Row.c O)]⟩:=
      ax.trans (ax.of_le (F':=⟨fun w=>((((((s.Rows w∧s.nw.At aU w)∧∀ j,j<32→(⟨hs j,(s.sp j).l⟩:Sl Se).At bT w)∧ai w pr.a (s.pr.l.flatMap b_))∧ai w cp.a (s.cp.l.flatMap bx))∧ai w gr.a (s.gr.l.flatMap bM))∧ai w ti.a (s.ti.l.flatMap cu)),[(br,Row.c E),(b2,Row.c Z),(b3,Row.c O)]++bo awi C ++ []⟩) ⟨by simp,fun w hw=>hw⟩) (ax.trans (hOw.share (r1:=[(br,Row.c E),(b2,Row.c Z),(b3,Row.c O)]) (r2:=[])) (ax.of_le ⟨by simp,fun w hw=>hw⟩))
     clear hOs hlt2 hk hrow hho hle hOw hOl
     conv=>whnf
     repeat (refine aa.of ?_;conv=>whnf)
     first | refine ar.bZ hEn ?_
     clear hEn
     refine ar.aj (ak.aH ae rfl rfl (ad:=⟨br,0,none⟩) (k:=379) (L:=E) (v:=s.nw.h.v s.nw.l.length) (aK.row (List.Mem.head _)) (fun _=>rfl) hR.eNw ?_)
     conv=>whnf
     repeat (refine aa.of ?_;conv=>whnf)
     obtain⟨hho,hle⟩:s.nw.h.Ok s.nw.l.length∧s.nw.l.length≤1000000:=⟨ho.nw.h,hm.nw⟩
     have hrow : ∀ w,(((((((s.Rows w∧s.nw.At aU w)∧∀ j,j<32→(⟨hs j,(s.sp j).l⟩:Sl Se).At bT w)∧ai w pr.a (s.pr.l.flatMap b_))∧ai w cp.a (s.cp.l.flatMap bx))∧ai w gr.a (s.gr.l.flatMap bM))∧ai w ti.a (s.ti.l.flatMap cu))∧ai w awi (s.wi.l.flatMap aW))→ai w s.nw.h.a (s.nw.l.flatMap aU):=fun w hw=>by
      have hw:=hw.1.1.1.1.1.1
      exact hw.2
     refine az.kN ae (ι:=Nat×Option Addr×Nat×List Value×List Value) ([12]++List.range' 185 14)
      (fun x=>x.1≤s.nw.l.length∧cZ 3 x.1 x.2.1 x.2.2.1 x.2.2.2.1 ((s.nw.l.take x.1).flatMap aU)∧x.2.2.2.2=aT ⟨s.T,s.D,s.q,⟨pr,s.pr.l⟩,s.nx,⟨cp,s.cp.l⟩,⟨gr,s.gr.l⟩,⟨ti,s.ti.l⟩,s.qu,s.pg,fun j=>⟨hs j,(s.sp j).l⟩,⟨⟨awi,cwi⟩,s.wi.l⟩,default,default,s.tr,⟨default,0,0,0,Hd.nil,[],Hd.nil,[],default,default⟩,default,0,default,fun _=>false,default,s.rc,s.ac,⟨⟨x.2.1,x.2.2.1⟩,s.nw.l.take x.1⟩⟩)
      (fun x=>[(185,.v (.int .i64 (x.1:Int)))]) (fun x=>⟨fun w=>(((((((s.Rows w∧s.nw.At aU w)∧∀ j,j<32→(⟨hs j,(s.sp j).l⟩:Sl Se).At bT w)∧ai w pr.a (s.pr.l.flatMap b_))∧ai w cp.a (s.cp.l.flatMap bx))∧ai w gr.a (s.gr.l.flatMap bM))∧ai w ti.a (s.ti.l.flatMap cu))∧ai w awi (s.wi.l.flatMap aW)),[(br,Row.c E),(b2,Row.c Z),(b3,Row.c x.2.2.2.2)]++bo x.2.1 x.2.2.2.1⟩)
      (fun x=>s.nw.l.length - x.1) (0,none,0,[],O) ⟨Nat.zero_le _,cZ.nil 3,hO⟩ ?_ (ax.of_le ⟨List.Sublist.refl _,fun w hw=>hw⟩) fun x hx=>?_
     · conv=>whnf
       repeat (first | exact au.nil | refine au.any ?_ | refine au.cons ?_)
     clear hO
     obtain⟨i,anw,cnw,C,O⟩:=x
     obtain⟨hk,hOw,hO⟩:=hx
     dsimp only at hk hOw hO ⊢
     have hOl:O.length=376:=by rw[hO];exact ba _
     have hOs:O[375]? = some (.slice anw i cnw):=by
      have h1:(aT ⟨s.T,s.D,s.q,⟨pr,s.pr.l⟩,s.nx,⟨cp,s.cp.l⟩,⟨gr,s.gr.l⟩,⟨ti,s.ti.l⟩,s.qu,s.pg,fun j=>⟨hs j,(s.sp j).l⟩,⟨⟨awi,cwi⟩,s.wi.l⟩,default,default,s.tr,⟨default,0,0,0,Hd.nil,[],Hd.nil,[],default,default⟩,default,0,default,fun _=>false,default,s.rc,s.ac,⟨⟨anw,cnw⟩,s.nw.l.take i⟩⟩)[375]? = some (⟨⟨anw,cnw⟩,s.nw.l.take i⟩:Sl Db).v:=by kernel_rfl
      rw[hO,h1]
      unfold Sl.v
      dsimp only
      rw[List.length_take,Nat.min_eq_left hk]
     conv=>whnf
     repeat (refine aa.of ?_;conv=>whnf)
     refine bF.split (fun hlt2=>?_) (fun hlt2=>?_)
     · have hk':i<s.nw.l.length:=by
        simp only[ao,decide_eq_true_eq] at hlt2
        omega
       repeat' (first
        | (refine cj.row rfl ?_;conv=>whnf)
        | (refine az.draw ae mixed rfl rfl ?_;conv=>whnf)
        | (refine ak.aH ae rfl rfl (ad:=⟨b3,0,none⟩) (k:=375) (L:=O) (v:=.slice anw i cnw) (aK.row (List.Mem.tail _ (List.Mem.tail _ (List.Mem.head _)))) (fun _=>rfl) hOs ?_;conv=>whnf)
        | (refine ak.aH ae rfl rfl (ad:=⟨br,0,none⟩) (k:=379) (L:=E) (v:=s.nw.h.v s.nw.l.length) (aK.row (List.Mem.head _)) (fun _=>rfl) hR.eNw ?_;conv=>whnf)
        | (refine ak.index ae rfl rfl rfl (by omega) (by omega) hho.nil fun ad had=>?_;conv=>whnf)
        | (refine ak.aQ ae rfl rfl (ad:=ad) (k:=i*3) (L:=s.nw.l.flatMap aU) (m:=aU s.nw.l[i]) (.fact fun w hw=>had ▸ hrow w hw) (by simp) (a8 (cf:=aU) (z:=3) (fun _=>rfl) hk') rfl ?_;conv=>whnf)
        | (refine ar.build ae rfl rfl rfl [.agg ⟨aU s.nw.l[i]⟩] rfl rfl (by simp[Value.cells,aU]) (by decide) fun b5=>?_;conv=>whnf)
        | (refine ar.bZ (F':=⟨fun w=>(((((((s.Rows w∧s.nw.At aU w)∧∀ j,j<32→(⟨hs j,(s.sp j).l⟩:Sl Se).At bT w)∧ai w pr.a (s.pr.l.flatMap b_))∧ai w cp.a (s.cp.l.flatMap bx))∧ai w gr.a (s.gr.l.flatMap bM))∧ai w ti.a (s.ti.l.flatMap cu))∧ai w awi (s.wi.l.flatMap aW)),[(br,Row.c E),(b2,Row.c Z),(b3,Row.c O)]++bo anw C ++ [(b5,Row.c (aU s.nw.l[i]))]⟩) (ax.of_le ⟨by simp[Value.cells],fun w hw=>hw⟩) ?_;refine ar.append ae rfl rfl rfl rfl rfl rfl (r1:=[(br,Row.c E),(b2,Row.c Z),(b3,Row.c O)]) (r2:=[(b5,Row.c (aU s.nw.l[i]))]) (M:=aU s.nw.l[i]) hOw (aK.row (by simp)) rfl (List.all_eq_true.1 (show(aU s.nw.l[i]).all a7=true from rfl)) (by omega) (by simp;omega) fun a' c' C' hO'=>?_;conv=>whnf)
        | (refine aP.bZ (F':=⟨fun w=>(((((((s.Rows w∧s.nw.At aU w)∧∀ j,j<32→(⟨hs j,(s.sp j).l⟩:Sl Se).At bT w)∧ai w pr.a (s.pr.l.flatMap b_))∧ai w cp.a (s.cp.l.flatMap bx))∧ai w gr.a (s.gr.l.flatMap bM))∧ai w ti.a (s.ti.l.flatMap cu))∧ai w awi (s.wi.l.flatMap aW)),[(br,Row.c E),(b2,Row.c Z)] ++ [(b3,Row.c O)]++([]++bo a' C' ++ [(b5,Row.c (aU s.nw.l[i]))])⟩) (ax.of_le ⟨by simp,fun w hw=>hw⟩) ?_;refine aP.cO ae rfl (b:=b3) (k:=375) rfl rfl (by simp[Value.cells,a7]) (by rw[hOl];decide) ?_;conv=>whnf))
       have hv:(⟨⟨a',c'⟩,s.nw.l.take (i+1)⟩:Sl Db).v = .slice a' (i+1) c':=by
        unfold Sl.v
        dsimp only
        rw[List.length_take,Nat.min_eq_left hk']
       have hlay:laid O 375 [.slice a' (i+1) c']=aT ⟨s.T,s.D,s.q,⟨pr,s.pr.l⟩,s.nx,⟨cp,s.cp.l⟩,⟨gr,s.gr.l⟩,⟨ti,s.ti.l⟩,s.qu,s.pg,fun j=>⟨hs j,(s.sp j).l⟩,⟨⟨awi,cwi⟩,s.wi.l⟩,default,default,s.tr,⟨default,0,0,0,Hd.nil,[],Hd.nil,[],default,default⟩,default,0,default,fun _=>false,default,s.rc,s.ac,⟨⟨a',c'⟩,s.nw.l.take (i+1)⟩⟩:=by
        rw[← hv,hO]
        kernel_rfl
       refine⟨(i+1,a',c',C',aT ⟨s.T,s.D,s.q,⟨pr,s.pr.l⟩,s.nx,⟨cp,s.cp.l⟩,⟨gr,s.gr.l⟩,⟨ti,s.ti.l⟩,s.qu,s.pg,fun j=>⟨hs j,(s.sp j).l⟩,⟨⟨awi,cwi⟩,s.wi.l⟩,default,default,s.tr,⟨default,0,0,0,Hd.nil,[],Hd.nil,[],default,default⟩,default,0,default,fun _=>false,default,s.rc,s.ac,⟨⟨a',c'⟩,s.nw.l.take (i+1)⟩⟩),⟨⟨hk',by dsimp only;rw[fg hk'];exact hO',rfl⟩,by dsimp only;omega⟩,?_,?_,?_⟩
       · conv=>whnf
         refine⟨?_,rfl⟩
         repeat (first | exact au.nil | refine au.any ?_ | refine au.cons ?_ | refine au.eq (by rw[wrap_i64 (by omega)];rfl) ?_)
       · conv=>whnf
         exact trivial
       · rw[← hlay]
         exact ax.of_le ⟨(List.Sublist.refl [_,_,_]).append (List.sublist_append_left _ _),fun w hw=>hw⟩
     · have hke:i=s.nw.l.length:=by
        simp only[ao,decide_eq_false_iff_not] at hlt2
        omega
       subst hke
       rw[List.take_length] at hOw hO
       have hnwO:(⟨anw,cnw⟩:Hd).Ok s.nw.l.length:=⟨hOw.cJ,hOw.fit⟩
       have hEn:ax ⟨fun w=>(((((((s.Rows w∧s.nw.At aU w)∧∀ j,j<32→(⟨hs j,(s.sp j).l⟩:Sl Se).At bT w)∧ai w pr.a (s.pr.l.flatMap b_))∧ai w cp.a (s.cp.l.flatMap bx))∧ai w gr.a (s.gr.l.flatMap bM))∧ai w ti.a (s.ti.l.flatMap cu))∧ai w awi (s.wi.l.flatMap aW)),[(br,Row.c E),(b2,Row.c Z),(b3,Row.c O)]++bo anw C⟩ ⟨fun w=>((((((((s.Rows w∧s.nw.At aU w)∧∀ j,j<32→(⟨hs j,(s.sp j).l⟩:Sl Se).At bT w)∧ai w pr.a (s.pr.l.flatMap b_))∧ai w cp.a (s.cp.l.flatMap bx))∧ai w gr.a (s.gr.l.flatMap bM))∧ai w ti.a (s.ti.l.flatMap cu))∧ai w awi (s.wi.l.flatMap aW))∧ai w anw (s.nw.l.flatMap aU)),[(br,Row.c E),(b2,Row.c Z),(b3,Row.c O)]⟩:=
        ax.trans (ax.of_le (F':=⟨fun w=>(((((((s.Rows w∧s.nw.At aU w)∧∀ j,j<32→(⟨hs j,(s.sp j).l⟩:Sl Se).At bT w)∧ai w pr.a (s.pr.l.flatMap b_))∧ai w cp.a (s.cp.l.flatMap bx))∧ai w gr.a (s.gr.l.flatMap bM))∧ai w ti.a (s.ti.l.flatMap cu))∧ai w awi (s.wi.l.flatMap aW)),[(br,Row.c E),(b2,Row.c Z),(b3,Row.c O)]++bo anw C ++ []⟩) ⟨by simp,fun w hw=>hw⟩) (ax.trans (hOw.share (r1:=[(br,Row.c E),(b2,Row.c Z),(b3,Row.c O)]) (r2:=[])) (ax.of_le ⟨by simp,fun w hw=>hw⟩))
       clear hOs hlt2 hk hrow hho hle hOw hOl
       conv=>whnf
       repeat (refine aa.of ?_;conv=>whnf)
       first
        | refine⟨⟨⟨awi,cwi⟩,⟨anw,cnw⟩,O⟩,⟨hwiO,hnwO,hO⟩,[],⟨by decide,by simp,rfl⟩,?_,hEn⟩
       repeat (first | exact au.nil | refine au.any ?_ | refine au.cons ?_)
 · intro x hx bs' hbs'
   obtain⟨wi,nw,O⟩:=x
   obtain⟨hwi,hnw,hO⟩:=hx
   rw[aS]
   exact Dw s ho hm w0 av E hR Z hZ br b2 b3 hs hsO pr hpr cp hcp gr hgr ti hti wi hwi nw hnw O hO bs' hbs'
theorem Dk (s:bW) (ho:s.Ok) (hm:s.Small) (w0:World) (av:Nat→Prop) (E:List Value) (hR:dJ s E) (Z:List Value) (hZ:Z.length=376) (br b2 b3:Nat) (hs:Nat→Hd) (hsO : ∀ j,j<32→(⟨hs j,(s.sp j).l⟩:Sl Se).Ok) (pr:Hd) (hpr:pr.Ok s.pr.l.length) (cp:Hd) (hcp:cp.Ok s.cp.l.length) (O:List Value) (hO:O=aT ⟨s.T,s.D,s.q,⟨pr,s.pr.l⟩,s.nx,⟨cp,s.cp.l⟩,default,default,s.qu,s.pg,fun j=>⟨hs j,(s.sp j).l⟩,default,default,default,s.tr,⟨default,0,0,0,Hd.nil,[],Hd.nil,[],default,default⟩,default,0,default,fun _=>false,default,s.rc,s.ac,default⟩) (bs:List (Nat×Nat)) (hbs:bs.length=0) :
 az Tryz.prog w0 (fun _ _=>False) av (cY 7 toCode) (uf br b2 b3) bs [] ⟨fun w=>((((s.Rows w∧s.nw.At aU w)∧∀ j,j<32→(⟨hs j,(s.sp j).l⟩:Sl Se).At bT w)∧ai w pr.a (s.pr.l.flatMap b_))∧ai w cp.a (s.cp.l.flatMap bx)),[(br,Row.c E),(b2,Row.c Z),(b3,Row.c O)]⟩ (toEnd s):=by
 obtain rfl:bs = []:=List.length_eq_zero_iff.1 hbs
 refine az.cr ae 2 (ι:=Hd×Hd×List Value) (fun x=>(x.1).Ok s.gr.l.length∧(x.2.1).Ok s.ti.l.length∧x.2.2=aT ⟨s.T,s.D,s.q,⟨pr,s.pr.l⟩,s.nx,⟨cp,s.cp.l⟩,⟨x.1,s.gr.l⟩,⟨x.2.1,s.ti.l⟩,s.qu,s.pg,fun j=>⟨hs j,(s.sp j).l⟩,default,default,default,s.tr,⟨default,0,0,0,Hd.nil,[],Hd.nil,[],default,default⟩,default,0,default,fun _=>false,default,s.rc,s.ac,default⟩) (fun x=>uf br b2 b3) (fun x=>[]) (fun x=>⟨fun w=>((((((s.Rows w∧s.nw.At aU w)∧∀ j,j<32→(⟨hs j,(s.sp j).l⟩:Sl Se).At bT w)∧ai w pr.a (s.pr.l.flatMap b_))∧ai w cp.a (s.cp.l.flatMap bx))∧ai w x.1.a (s.gr.l.flatMap bM))∧ai w x.2.1.a (s.ti.l.flatMap cu)),[(br,Row.c E),(b2,Row.c Z),(b3,Row.c x.2.2)]⟩) ?_ ?_
 · conv=>whnf
   repeat (refine aa.of ?_;conv=>whnf)
   refine ar.aj (ak.aH ae rfl rfl (ad:=⟨br,0,none⟩) (k:=271) (L:=E) (v:=s.gr.h.v s.gr.l.length) (aK.row (List.Mem.head _)) (fun _=>rfl) hR.eGr ?_)
   conv=>whnf
   repeat (refine aa.of ?_;conv=>whnf)
   obtain⟨hho,hle⟩:s.gr.h.Ok s.gr.l.length∧s.gr.l.length≤1000000:=⟨ho.gr.h,hm.gr⟩
   have hrow : ∀ w,((((s.Rows w∧s.nw.At aU w)∧∀ j,j<32→(⟨hs j,(s.sp j).l⟩:Sl Se).At bT w)∧ai w pr.a (s.pr.l.flatMap b_))∧ai w cp.a (s.cp.l.flatMap bx))→ai w s.gr.h.a (s.gr.l.flatMap bM):=fun w hw=>by
    have hw:=hw.1.1.1
    exact hw.1.gr
   refine az.kN ae (ι:=Nat×Option Addr×Nat×List Value×List Value) ([9]++List.range' 134 14)
    (fun x=>x.1≤s.gr.l.length∧cZ 4 x.1 x.2.1 x.2.2.1 x.2.2.2.1 ((s.gr.l.take x.1).flatMap bM)∧x.2.2.2.2=aT ⟨s.T,s.D,s.q,⟨pr,s.pr.l⟩,s.nx,⟨cp,s.cp.l⟩,⟨⟨x.2.1,x.2.2.1⟩,s.gr.l.take x.1⟩,default,s.qu,s.pg,fun j=>⟨hs j,(s.sp j).l⟩,default,default,default,s.tr,⟨default,0,0,0,Hd.nil,[],Hd.nil,[],default,default⟩,default,0,default,fun _=>false,default,s.rc,s.ac,default⟩)
    (fun x=>[(134,.v (.int .i64 (x.1:Int)))]) (fun x=>⟨fun w=>((((s.Rows w∧s.nw.At aU w)∧∀ j,j<32→(⟨hs j,(s.sp j).l⟩:Sl Se).At bT w)∧ai w pr.a (s.pr.l.flatMap b_))∧ai w cp.a (s.cp.l.flatMap bx)),[(br,Row.c E),(b2,Row.c Z),(b3,Row.c x.2.2.2.2)]++bo x.2.1 x.2.2.2.1⟩)
    (fun x=>s.gr.l.length - x.1) (0,none,0,[],O) ⟨Nat.zero_le _,cZ.nil 4,hO⟩ ?_ (ax.of_le ⟨List.Sublist.refl _,fun w hw=>hw⟩) fun x hx=>?_
   · conv=>whnf
     repeat (first | exact au.nil | refine au.any ?_ | refine au.cons ?_)
   clear hO
   obtain⟨i,agr,cgr,C,O⟩:=x
   obtain⟨hk,hOw,hO⟩:=hx
   dsimp only at hk hOw hO ⊢
   have hOl:O.length=376:=by rw[hO];exact ba _
   have hOs:O[271]? = some (.slice agr i cgr):=by
    have h1:(aT ⟨s.T,s.D,s.q,⟨pr,s.pr.l⟩,s.nx,⟨cp,s.cp.l⟩,⟨⟨agr,cgr⟩,s.gr.l.take i⟩,default,s.qu,s.pg,fun j=>⟨hs j,(s.sp j).l⟩,default,default,default,s.tr,⟨default,0,0,0,Hd.nil,[],Hd.nil,[],default,default⟩,default,0,default,fun _=>false,default,s.rc,s.ac,default⟩)[271]? = some (⟨⟨agr,cgr⟩,s.gr.l.take i⟩:Sl Gr).v:=by kernel_rfl
    rw[hO,h1]
    unfold Sl.v
    dsimp only
    rw[List.length_take,Nat.min_eq_left hk]
   conv=>whnf
   repeat (refine aa.of ?_;conv=>whnf)
   refine bF.split (fun hlt2=>?_) (fun hlt2=>?_)
   · have hk':i<s.gr.l.length:=by
      simp only[ao,decide_eq_true_eq] at hlt2
      omega
     repeat' (first
      | (refine cj.row rfl ?_;conv=>whnf)
      | (refine az.draw ae mixed rfl rfl ?_;conv=>whnf)
      | (refine ak.aH ae rfl rfl (ad:=⟨b3,0,none⟩) (k:=271) (L:=O) (v:=.slice agr i cgr) (aK.row (List.Mem.tail _ (List.Mem.tail _ (List.Mem.head _)))) (fun _=>rfl) hOs ?_;conv=>whnf)
      | (refine ak.aH ae rfl rfl (ad:=⟨br,0,none⟩) (k:=271) (L:=E) (v:=s.gr.h.v s.gr.l.length) (aK.row (List.Mem.head _)) (fun _=>rfl) hR.eGr ?_;conv=>whnf)
      | (refine ak.index ae rfl rfl rfl (by omega) (by omega) hho.nil fun ad had=>?_;conv=>whnf)
      | (refine ak.aQ ae rfl rfl (ad:=ad) (k:=i*4) (L:=s.gr.l.flatMap bM) (m:=bM s.gr.l[i]) (.fact fun w hw=>had ▸ hrow w hw) (by simp) (a8 (cf:=bM) (z:=4) (fun _=>rfl) hk') rfl ?_;conv=>whnf)
      | (refine ar.build ae rfl rfl rfl [.agg ⟨bM s.gr.l[i]⟩] rfl rfl (by simp[Value.cells,bM]) (by decide) fun b5=>?_;conv=>whnf)
      | (refine ar.bZ (F':=⟨fun w=>((((s.Rows w∧s.nw.At aU w)∧∀ j,j<32→(⟨hs j,(s.sp j).l⟩:Sl Se).At bT w)∧ai w pr.a (s.pr.l.flatMap b_))∧ai w cp.a (s.cp.l.flatMap bx)),[(br,Row.c E),(b2,Row.c Z),(b3,Row.c O)]++bo agr C ++ [(b5,Row.c (bM s.gr.l[i]))]⟩) (ax.of_le ⟨by simp[Value.cells],fun w hw=>hw⟩) ?_;refine ar.append ae rfl rfl rfl rfl rfl rfl (r1:=[(br,Row.c E),(b2,Row.c Z),(b3,Row.c O)]) (r2:=[(b5,Row.c (bM s.gr.l[i]))]) (M:=bM s.gr.l[i]) hOw (aK.row (by simp)) rfl (List.all_eq_true.1 (show(bM s.gr.l[i]).all a7=true from rfl)) (by omega) (by simp;omega) fun a' c' C' hO'=>?_;conv=>whnf)
      | (refine aP.bZ (F':=⟨fun w=>((((s.Rows w∧s.nw.At aU w)∧∀ j,j<32→(⟨hs j,(s.sp j).l⟩:Sl Se).At bT w)∧ai w pr.a (s.pr.l.flatMap b_))∧ai w cp.a (s.cp.l.flatMap bx)),[(br,Row.c E),(b2,Row.c Z)] ++ [(b3,Row.c O)]++([]++bo a' C' ++ [(b5,Row.c (bM s.gr.l[i]))])⟩) (ax.of_le ⟨by simp,fun w hw=>hw⟩) ?_;refine aP.cO ae rfl (b:=b3) (k:=271) rfl rfl (by simp[Value.cells,a7]) (by rw[hOl];decide) ?_;conv=>whnf))
     have hv:(⟨⟨a',c'⟩,s.gr.l.take (i+1)⟩:Sl Gr).v = .slice a' (i+1) c':=by
      unfold Sl.v
      dsimp only
      rw[List.length_take,Nat.min_eq_left hk']
     have hlay:laid O 271 [.slice a' (i+1) c']=aT ⟨s.T,s.D,s.q,⟨pr,s.pr.l⟩,s.nx,⟨cp,s.cp.l⟩,⟨⟨a',c'⟩,s.gr.l.take (i+1)⟩,default,s.qu,s.pg,fun j=>⟨hs j,(s.sp j).l⟩,default,default,default,s.tr,⟨default,0,0,0,Hd.nil,[],Hd.nil,[],default,default⟩,default,0,default,fun _=>false,default,s.rc,s.ac,default⟩:=by
      rw[← hv,hO]
      kernel_rfl
     refine⟨(i+1,a',c',C',aT ⟨s.T,s.D,s.q,⟨pr,s.pr.l⟩,s.nx,⟨cp,s.cp.l⟩,⟨⟨a',c'⟩,s.gr.l.take (i+1)⟩,default,s.qu,s.pg,fun j=>⟨hs j,(s.sp j).l⟩,default,default,default,s.tr,⟨default,0,0,0,Hd.nil,[],Hd.nil,[],default,default⟩,default,0,default,fun _=>false,default,s.rc,s.ac,default⟩),⟨⟨hk',by dsimp only;rw[fg hk'];exact hO',rfl⟩,by dsimp only;omega⟩,?_,?_,?_⟩
     · conv=>whnf
       refine⟨?_,rfl⟩
       repeat (first | exact au.nil | refine au.any ?_ | refine au.cons ?_ | refine au.eq (by rw[wrap_i64 (by omega)];rfl) ?_)
     · conv=>whnf
       exact trivial
     · rw[← hlay]
       exact ax.of_le ⟨(List.Sublist.refl [_,_,_]).append (List.sublist_append_left _ _),fun w hw=>hw⟩
   · have hke:i=s.gr.l.length:=by
      simp only[ao,decide_eq_false_iff_not] at hlt2
      omega
     subst hke
     rw[List.take_length] at hOw hO
     have hgrO:(⟨agr,cgr⟩:Hd).Ok s.gr.l.length:=⟨hOw.cJ,hOw.fit⟩
     have hEn:ax ⟨fun w=>((((s.Rows w∧s.nw.At aU w)∧∀ j,j<32→(⟨hs j,(s.sp j).l⟩:Sl Se).At bT w)∧ai w pr.a (s.pr.l.flatMap b_))∧ai w cp.a (s.cp.l.flatMap bx)),[(br,Row.c E),(b2,Row.c Z),(b3,Row.c O)]++bo agr C⟩ ⟨fun w=>(((((s.Rows w∧s.nw.At aU w)∧∀ j,j<32→(⟨hs j,(s.sp j).l⟩:Sl Se).At bT w)∧ai w pr.a (s.pr.l.flatMap b_))∧ai w cp.a (s.cp.l.flatMap bx))∧ai w agr (s.gr.l.flatMap bM)),[(br,Row.c E),(b2,Row.c Z),(b3,Row.c O)]⟩:=
      ax.trans (ax.of_le (F':=⟨fun w=>((((s.Rows w∧s.nw.At aU w)∧∀ j,j<32→(⟨hs j,(s.sp j).l⟩:Sl Se).At bT w)∧ai w pr.a (s.pr.l.flatMap b_))∧ai w cp.a (s.cp.l.flatMap bx)),[(br,Row.c E),(b2,Row.c Z),(b3,Row.c O)]++bo agr C ++ []⟩) ⟨by simp,fun w hw=>hw⟩) (ax.trans (hOw.share (r1:=[(br,Row.c E),(b2,Row.c Z),(b3,Row.c O)]) (r2:=[])) (ax.of_le ⟨by simp,fun w hw=>hw⟩))
     clear hOs hlt2 hk hrow hho hle hOw hOl
     conv=>whnf
     repeat (refine aa.of ?_;conv=>whnf)
     first | refine ar.bZ hEn ?_
     clear hEn
     refine ar.aj (ak.aH ae rfl rfl (ad:=⟨br,0,none⟩) (k:=272) (L:=E) (v:=s.ti.h.v s.ti.l.length) (aK.row (List.Mem.head _)) (fun _=>rfl) hR.eTi ?_)
     conv=>whnf
     repeat (refine aa.of ?_;conv=>whnf)
     obtain⟨hho,hle⟩:s.ti.h.Ok s.ti.l.length∧s.ti.l.length≤1000000:=⟨ho.ti.h,hm.ti⟩
     have hrow : ∀ w,(((((s.Rows w∧s.nw.At aU w)∧∀ j,j<32→(⟨hs j,(s.sp j).l⟩:Sl Se).At bT w)∧ai w pr.a (s.pr.l.flatMap b_))∧ai w cp.a (s.cp.l.flatMap bx))∧ai w agr (s.gr.l.flatMap bM))→ai w s.ti.h.a (s.ti.l.flatMap cu):=fun w hw=>by
      have hw:=hw.1.1.1.1
      exact hw.1.ti
     refine az.kN ae (ι:=Nat×Option Addr×Nat×List Value×List Value) ([10]++List.range' 151 14)
      (fun x=>x.1≤s.ti.l.length∧cZ 3 x.1 x.2.1 x.2.2.1 x.2.2.2.1 ((s.ti.l.take x.1).flatMap cu)∧x.2.2.2.2=aT ⟨s.T,s.D,s.q,⟨pr,s.pr.l⟩,s.nx,⟨cp,s.cp.l⟩,⟨⟨agr,cgr⟩,s.gr.l⟩,⟨⟨x.2.1,x.2.2.1⟩,s.ti.l.take x.1⟩,s.qu,s.pg,fun j=>⟨hs j,(s.sp j).l⟩,default,default,default,s.tr,⟨default,0,0,0,Hd.nil,[],Hd.nil,[],default,default⟩,default,0,default,fun _=>false,default,s.rc,s.ac,default⟩)
      (fun x=>[(151,.v (.int .i64 (x.1:Int)))]) (fun x=>⟨fun w=>(((((s.Rows w∧s.nw.At aU w)∧∀ j,j<32→(⟨hs j,(s.sp j).l⟩:Sl Se).At bT w)∧ai w pr.a (s.pr.l.flatMap b_))∧ai w cp.a (s.cp.l.flatMap bx))∧ai w agr (s.gr.l.flatMap bM)),[(br,Row.c E),(b2,Row.c Z),(b3,Row.c x.2.2.2.2)]++bo x.2.1 x.2.2.2.1⟩)
      (fun x=>s.ti.l.length - x.1) (0,none,0,[],O) ⟨Nat.zero_le _,cZ.nil 3,hO⟩ ?_ (ax.of_le ⟨List.Sublist.refl _,fun w hw=>hw⟩) fun x hx=>?_
     · conv=>whnf
       repeat (first | exact au.nil | refine au.any ?_ | refine au.cons ?_)
     clear hO
     obtain⟨i,ati,cti,C,O⟩:=x
     obtain⟨hk,hOw,hO⟩:=hx
     dsimp only at hk hOw hO ⊢
     have hOl:O.length=376:=by rw[hO];exact ba _
     have hOs:O[272]? = some (.slice ati i cti):=by
      have h1:(aT ⟨s.T,s.D,s.q,⟨pr,s.pr.l⟩,s.nx,⟨cp,s.cp.l⟩,⟨⟨agr,cgr⟩,s.gr.l⟩,⟨⟨ati,cti⟩,s.ti.l.take i⟩,s.qu,s.pg,fun j=>⟨hs j,(s.sp j).l⟩,default,default,default,s.tr,⟨default,0,0,0,Hd.nil,[],Hd.nil,[],default,default⟩,default,0,default,fun _=>false,default,s.rc,s.ac,default⟩)[272]? = some (⟨⟨ati,cti⟩,s.ti.l.take i⟩:Sl Ti).v:=by kernel_rfl
      rw[hO,h1]
      unfold Sl.v
      dsimp only
      rw[List.length_take,Nat.min_eq_left hk]
     conv=>whnf
     repeat (refine aa.of ?_;conv=>whnf)
     refine bF.split (fun hlt2=>?_) (fun hlt2=>?_)
     · have hk':i<s.ti.l.length:=by
        simp only[ao,decide_eq_true_eq] at hlt2
        omega
       repeat' (first
        | (refine cj.row rfl ?_;conv=>whnf)
        | (refine az.draw ae mixed rfl rfl ?_;conv=>whnf)
        | (refine ak.aH ae rfl rfl (ad:=⟨b3,0,none⟩) (k:=272) (L:=O) (v:=.slice ati i cti) (aK.row (List.Mem.tail _ (List.Mem.tail _ (List.Mem.head _)))) (fun _=>rfl) hOs ?_;conv=>whnf)
        | (refine ak.aH ae rfl rfl (ad:=⟨br,0,none⟩) (k:=272) (L:=E) (v:=s.ti.h.v s.ti.l.length) (aK.row (List.Mem.head _)) (fun _=>rfl) hR.eTi ?_;conv=>whnf)
        | (refine ak.index ae rfl rfl rfl (by omega) (by omega) hho.nil fun ad had=>?_;conv=>whnf)
        | (refine ak.aQ ae rfl rfl (ad:=ad) (k:=i*3) (L:=s.ti.l.flatMap cu) (m:=cu s.ti.l[i]) (.fact fun w hw=>had ▸ hrow w hw) (by simp) (a8 (cf:=cu) (z:=3) (fun _=>rfl) hk') rfl ?_;conv=>whnf)
        | (refine ar.build ae rfl rfl rfl [.agg ⟨cu s.ti.l[i]⟩] rfl rfl (by simp[Value.cells,cu]) (by decide) fun b5=>?_;conv=>whnf)
        | (refine ar.bZ (F':=⟨fun w=>(((((s.Rows w∧s.nw.At aU w)∧∀ j,j<32→(⟨hs j,(s.sp j).l⟩:Sl Se).At bT w)∧ai w pr.a (s.pr.l.flatMap b_))∧ai w cp.a (s.cp.l.flatMap bx))∧ai w agr (s.gr.l.flatMap bM)),[(br,Row.c E),(b2,Row.c Z),(b3,Row.c O)]++bo ati C ++ [(b5,Row.c (cu s.ti.l[i]))]⟩) (ax.of_le ⟨by simp[Value.cells],fun w hw=>hw⟩) ?_;refine ar.append ae rfl rfl rfl rfl rfl rfl (r1:=[(br,Row.c E),(b2,Row.c Z),(b3,Row.c O)]) (r2:=[(b5,Row.c (cu s.ti.l[i]))]) (M:=cu s.ti.l[i]) hOw (aK.row (by simp)) rfl (List.all_eq_true.1 (show(cu s.ti.l[i]).all a7=true from rfl)) (by omega) (by simp;omega) fun a' c' C' hO'=>?_;conv=>whnf)
        | (refine aP.bZ (F':=⟨fun w=>(((((s.Rows w∧s.nw.At aU w)∧∀ j,j<32→(⟨hs j,(s.sp j).l⟩:Sl Se).At bT w)∧ai w pr.a (s.pr.l.flatMap b_))∧ai w cp.a (s.cp.l.flatMap bx))∧ai w agr (s.gr.l.flatMap bM)),[(br,Row.c E),(b2,Row.c Z)] ++ [(b3,Row.c O)]++([]++bo a' C' ++ [(b5,Row.c (cu s.ti.l[i]))])⟩) (ax.of_le ⟨by simp,fun w hw=>hw⟩) ?_;refine aP.cO ae rfl (b:=b3) (k:=272) rfl rfl (by simp[Value.cells,a7]) (by rw[hOl];decide) ?_;conv=>whnf))
       have hv:(⟨⟨a',c'⟩,s.ti.l.take (i+1)⟩:Sl Ti).v = .slice a' (i+1) c':=by
        unfold Sl.v
        dsimp only
        rw[List.length_take,Nat.min_eq_left hk']
       have hlay:laid O 272 [.slice a' (i+1) c']=aT ⟨s.T,s.D,s.q,⟨pr,s.pr.l⟩,s.nx,⟨cp,s.cp.l⟩,⟨⟨agr,cgr⟩,s.gr.l⟩,⟨⟨a',c'⟩,s.ti.l.take (i+1)⟩,s.qu,s.pg,fun j=>⟨hs j,(s.sp j).l⟩,default,default,default,s.tr,⟨default,0,0,0,Hd.nil,[],Hd.nil,[],default,default⟩,default,0,default,fun _=>false,default,s.rc,s.ac,default⟩:=by
        rw[← hv,hO]
        kernel_rfl
       refine⟨(i+1,a',c',C',aT ⟨s.T,s.D,s.q,⟨pr,s.pr.l⟩,s.nx,⟨cp,s.cp.l⟩,⟨⟨agr,cgr⟩,s.gr.l⟩,⟨⟨a',c'⟩,s.ti.l.take (i+1)⟩,s.qu,s.pg,fun j=>⟨hs j,(s.sp j).l⟩,default,default,default,s.tr,⟨default,0,0,0,Hd.nil,[],Hd.nil,[],default,default⟩,default,0,default,fun _=>false,default,s.rc,s.ac,default⟩),⟨⟨hk',by dsimp only;rw[fg hk'];exact hO',rfl⟩,by dsimp only;omega⟩,?_,?_,?_⟩
       · conv=>whnf
         refine⟨?_,rfl⟩
         repeat (first | exact au.nil | refine au.any ?_ | refine au.cons ?_ | refine au.eq (by rw[wrap_i64 (by omega)];rfl) ?_)
       · conv=>whnf
         exact trivial
       · rw[← hlay]
         exact ax.of_le ⟨(List.Sublist.refl [_,_,_]).append (List.sublist_append_left _ _),fun w hw=>hw⟩
     · have hke:i=s.ti.l.length:=by
        simp only[ao,decide_eq_false_iff_not] at hlt2
        omega
       subst hke
       rw[List.take_length] at hOw hO
       have htiO:(⟨ati,cti⟩:Hd).Ok s.ti.l.length:=⟨hOw.cJ,hOw.fit⟩
       have hEn:ax ⟨fun w=>(((((s.Rows w∧s.nw.At aU w)∧∀ j,j<32→(⟨hs j,(s.sp j).l⟩:Sl Se).At bT w)∧ai w pr.a (s.pr.l.flatMap b_))∧ai w cp.a (s.cp.l.flatMap bx))∧ai w agr (s.gr.l.flatMap bM)),[(br,Row.c E),(b2,Row.c Z),(b3,Row.c O)]++bo ati C⟩ ⟨fun w=>((((((s.Rows w∧s.nw.At aU w)∧∀ j,j<32→(⟨hs j,(s.sp j).l⟩:Sl Se).At bT w)∧ai w pr.a (s.pr.l.flatMap b_))∧ai w cp.a (s.cp.l.flatMap bx))∧ai w agr (s.gr.l.flatMap bM))∧ai w ati (s.ti.l.flatMap cu)),[(br,Row.c E),(b2,Row.c Z),(b3,Row.c O)]⟩:=
        ax.trans (ax.of_le (F':=⟨fun w=>(((((s.Rows w∧s.nw.At aU w)∧∀ j,j<32→(⟨hs j,(s.sp j).l⟩:Sl Se).At bT w)∧ai w pr.a (s.pr.l.flatMap b_))∧ai w cp.a (s.cp.l.flatMap bx))∧ai w agr (s.gr.l.flatMap bM)),[(br,Row.c E),(b2,Row.c Z),(b3,Row.c O)]++bo ati C ++ []⟩) ⟨by simp,fun w hw=>hw⟩) (ax.trans (hOw.share (r1:=[(br,Row.c E),(b2,Row.c Z),(b3,Row.c O)]) (r2:=[])) (ax.of_le ⟨by simp,fun w hw=>hw⟩))
       clear hOs hlt2 hk hrow hho hle hOw hOl
       conv=>whnf
       repeat (refine aa.of ?_;conv=>whnf)
       first
        | refine⟨⟨⟨agr,cgr⟩,⟨ati,cti⟩,O⟩,⟨hgrO,htiO,hO⟩,[],⟨by decide,by simp,rfl⟩,?_,hEn⟩
       repeat (first | exact au.nil | refine au.any ?_ | refine au.cons ?_)
 · intro x hx bs' hbs'
   obtain⟨gr,ti,O⟩:=x
   obtain⟨hgr,hti,hO⟩:=hx
   rw[aS]
   exact DH s ho hm w0 av E hR Z hZ br b2 b3 hs hsO pr hpr cp hcp gr hgr ti hti O hO bs' hbs'
theorem Dy (s:bW) (ho:s.Ok) (hm:s.Small) (w0:World) (av:Nat→Prop) (E:List Value) (hR:dJ s E) (Z:List Value) (hZ:Z.length=376) (br b2 b3:Nat) (hs:Nat→Hd) (hsO : ∀ j,j<32→(⟨hs j,(s.sp j).l⟩:Sl Se).Ok) (O:List Value) (hO:O=aT ⟨s.T,s.D,default,default,0,default,default,default,s.qu,s.pg,fun j=>⟨hs j,(s.sp j).l⟩,default,default,default,s.tr,⟨default,0,0,0,Hd.nil,[],Hd.nil,[],default,default⟩,default,0,default,fun _=>false,default,s.rc,s.ac,default⟩) (bs:List (Nat×Nat)) (hbs:bs.length=0) :
 az Tryz.prog w0 (fun _ _=>False) av (cY 3 toCode) (uf br b2 b3) bs [] ⟨fun w=>((s.Rows w∧s.nw.At aU w)∧∀ j,j<32→(⟨hs j,(s.sp j).l⟩:Sl Se).At bT w),[(br,Row.c E),(b2,Row.c Z),(b3,Row.c O)]⟩ (toEnd s):=by
 obtain rfl:bs = []:=List.length_eq_zero_iff.1 hbs
 refine az.cr ae 4 (ι:=Hd×Hd×List Value) (fun x=>(x.1).Ok s.pr.l.length∧(x.2.1).Ok s.cp.l.length∧x.2.2=aT ⟨s.T,s.D,s.q,⟨x.1,s.pr.l⟩,s.nx,⟨x.2.1,s.cp.l⟩,default,default,s.qu,s.pg,fun j=>⟨hs j,(s.sp j).l⟩,default,default,default,s.tr,⟨default,0,0,0,Hd.nil,[],Hd.nil,[],default,default⟩,default,0,default,fun _=>false,default,s.rc,s.ac,default⟩) (fun x=>uf br b2 b3) (fun x=>[]) (fun x=>⟨fun w=>((((s.Rows w∧s.nw.At aU w)∧∀ j,j<32→(⟨hs j,(s.sp j).l⟩:Sl Se).At bT w)∧ai w x.1.a (s.pr.l.flatMap b_))∧ai w x.2.1.a (s.cp.l.flatMap bx)),[(br,Row.c E),(b2,Row.c Z),(b3,Row.c x.2.2)]⟩) ?_ ?_
 · conv=>whnf
   repeat (refine aa.of ?_;conv=>whnf)
   refine ar.aj (ak.aH ae rfl rfl (ad:=⟨br,0,none⟩) (k:=267) (L:=E) (v:=s.q.v) (aK.row (List.Mem.head _)) (fun _=>rfl) hR.eq ?_)
   conv=>whnf
   repeat (refine aa.of ?_;conv=>whnf)
   have hOl:O.length=376:=by rw[hO];exact ba _
   refine aP.bZ (F':=⟨fun w=>((s.Rows w∧s.nw.At aU w)∧∀ j,j<32→(⟨hs j,(s.sp j).l⟩:Sl Se).At bT w),[(br,Row.c E),(b2,Row.c Z)] ++ [(b3,Row.c O)] ++ []⟩) (ax.of_le ⟨List.Sublist.refl _,fun w hw=>hw⟩) ?_
   refine aP.aX ae rfl (b:=b3) (k:=267) (X:=aT ⟨s.T,s.D,s.q,default,0,default,default,default,s.qu,s.pg,fun j=>⟨hs j,(s.sp j).l⟩,default,default,default,s.tr,⟨default,0,0,0,Hd.nil,[],Hd.nil,[],default,default⟩,default,0,default,fun _=>false,default,s.rc,s.ac,default⟩) rfl rfl (List.all_eq_true.1 (by rfl)) (by rw[hOl];decide) (by rw[hO];kernel_rfl) ?_
   clear hO hOl
   obtain⟨O,hO⟩ : ∃ O,O=aT ⟨s.T,s.D,s.q,default,0,default,default,default,s.qu,s.pg,fun j=>⟨hs j,(s.sp j).l⟩,default,default,default,s.tr,⟨default,0,0,0,Hd.nil,[],Hd.nil,[],default,default⟩,default,0,default,fun _=>false,default,s.rc,s.ac,default⟩:=⟨_,rfl⟩
   rw[← hO]
   conv=>whnf
   repeat (refine aa.of ?_;conv=>whnf)
   refine ar.aj (ak.aH ae rfl rfl (ad:=⟨br,0,none⟩) (k:=268) (L:=E) (v:=s.pr.h.v s.pr.l.length) (aK.row (List.Mem.head _)) (fun _=>rfl) hR.ePr ?_)
   conv=>whnf
   repeat (refine aa.of ?_;conv=>whnf)
   obtain⟨hho,hle⟩:s.pr.h.Ok s.pr.l.length∧s.pr.l.length≤1000000:=⟨ho.pr.h,hm.pr⟩
   have hrow : ∀ w,((s.Rows w∧s.nw.At aU w)∧∀ j,j<32→(⟨hs j,(s.sp j).l⟩:Sl Se).At bT w)→ai w s.pr.h.a (s.pr.l.flatMap b_):=fun w hw=>by
    have hw:=hw.1
    exact hw.1.pr
   refine az.kN ae (ι:=Nat×Option Addr×Nat×List Value×List Value) ([6]++List.range' 79 17)
    (fun x=>x.1≤s.pr.l.length∧cZ 3 x.1 x.2.1 x.2.2.1 x.2.2.2.1 ((s.pr.l.take x.1).flatMap b_)∧x.2.2.2.2=aT ⟨s.T,s.D,s.q,⟨⟨x.2.1,x.2.2.1⟩,s.pr.l.take x.1⟩,0,default,default,default,s.qu,s.pg,fun j=>⟨hs j,(s.sp j).l⟩,default,default,default,s.tr,⟨default,0,0,0,Hd.nil,[],Hd.nil,[],default,default⟩,default,0,default,fun _=>false,default,s.rc,s.ac,default⟩)
    (fun x=>[(79,.v (.int .i64 (x.1:Int)))]) (fun x=>⟨fun w=>((s.Rows w∧s.nw.At aU w)∧∀ j,j<32→(⟨hs j,(s.sp j).l⟩:Sl Se).At bT w),[(br,Row.c E),(b2,Row.c Z),(b3,Row.c x.2.2.2.2)]++bo x.2.1 x.2.2.2.1⟩)
    (fun x=>s.pr.l.length - x.1) (0,none,0,[],O) ⟨Nat.zero_le _,cZ.nil 3,hO⟩ ?_ (ax.of_le ⟨List.Sublist.refl _,fun w hw=>hw⟩) fun x hx=>?_
   · conv=>whnf
     repeat (first | exact au.nil | refine au.any ?_ | refine au.cons ?_)
   clear hO
   obtain⟨i,apr,cpr,C,O⟩:=x
   obtain⟨hk,hOw,hO⟩:=hx
   dsimp only at hk hOw hO ⊢
   have hOl:O.length=376:=by rw[hO];exact ba _
   have hOs:O[268]? = some (.slice apr i cpr):=by
    have h1:(aT ⟨s.T,s.D,s.q,⟨⟨apr,cpr⟩,s.pr.l.take i⟩,0,default,default,default,s.qu,s.pg,fun j=>⟨hs j,(s.sp j).l⟩,default,default,default,s.tr,⟨default,0,0,0,Hd.nil,[],Hd.nil,[],default,default⟩,default,0,default,fun _=>false,default,s.rc,s.ac,default⟩)[268]? = some (⟨⟨apr,cpr⟩,s.pr.l.take i⟩:Sl Pr).v:=by kernel_rfl
    rw[hO,h1]
    unfold Sl.v
    dsimp only
    rw[List.length_take,Nat.min_eq_left hk]
   conv=>whnf
   repeat (refine aa.of ?_;conv=>whnf)
   refine bF.split (fun hlt2=>?_) (fun hlt2=>?_)
   · have hk':i<s.pr.l.length:=by
      simp only[ao,decide_eq_true_eq] at hlt2
      omega
     repeat' (first
      | (refine cj.row rfl ?_;conv=>whnf)
      | (refine az.draw ae mixed rfl rfl ?_;conv=>whnf)
      | (refine ak.aH ae rfl rfl (ad:=⟨b3,0,none⟩) (k:=268) (L:=O) (v:=.slice apr i cpr) (aK.row (List.Mem.tail _ (List.Mem.tail _ (List.Mem.head _)))) (fun _=>rfl) hOs ?_;conv=>whnf)
      | (refine ak.aH ae rfl rfl (ad:=⟨br,0,none⟩) (k:=268) (L:=E) (v:=s.pr.h.v s.pr.l.length) (aK.row (List.Mem.head _)) (fun _=>rfl) hR.ePr ?_;conv=>whnf)
      | (refine ak.index ae rfl rfl rfl (by omega) (by omega) hho.nil fun ad had=>?_;conv=>whnf)
      | (refine ak.aQ ae rfl rfl (ad:=ad) (k:=i*3) (L:=s.pr.l.flatMap b_) (m:=b_ s.pr.l[i]) (.fact fun w hw=>had ▸ hrow w hw) (by simp) (a8 (cf:=b_) (z:=3) (fun _=>rfl) hk') rfl ?_;conv=>whnf)
      | (refine ar.build ae rfl rfl rfl [.agg ⟨b_ s.pr.l[i]⟩] rfl rfl (by simp[Value.cells,b_]) (by decide) fun b5=>?_;conv=>whnf)
      | (refine ar.bZ (F':=⟨fun w=>((s.Rows w∧s.nw.At aU w)∧∀ j,j<32→(⟨hs j,(s.sp j).l⟩:Sl Se).At bT w),[(br,Row.c E),(b2,Row.c Z),(b3,Row.c O)]++bo apr C ++ [(b5,Row.c (b_ s.pr.l[i]))]⟩) (ax.of_le ⟨by simp[Value.cells],fun w hw=>hw⟩) ?_;refine ar.append ae rfl rfl rfl rfl rfl rfl (r1:=[(br,Row.c E),(b2,Row.c Z),(b3,Row.c O)]) (r2:=[(b5,Row.c (b_ s.pr.l[i]))]) (M:=b_ s.pr.l[i]) hOw (aK.row (by simp)) rfl (List.all_eq_true.1 (show(b_ s.pr.l[i]).all a7=true from rfl)) (by omega) (by simp;omega) fun a' c' C' hO'=>?_;conv=>whnf)
      | (refine aP.bZ (F':=⟨fun w=>((s.Rows w∧s.nw.At aU w)∧∀ j,j<32→(⟨hs j,(s.sp j).l⟩:Sl Se).At bT w),[(br,Row.c E),(b2,Row.c Z)] ++ [(b3,Row.c O)]++([]++bo a' C' ++ [(b5,Row.c (b_ s.pr.l[i]))])⟩) (ax.of_le ⟨by simp,fun w hw=>hw⟩) ?_;refine aP.cO ae rfl (b:=b3) (k:=268) rfl rfl (by simp[Value.cells,a7]) (by rw[hOl];decide) ?_;conv=>whnf))
     have hv:(⟨⟨a',c'⟩,s.pr.l.take (i+1)⟩:Sl Pr).v = .slice a' (i+1) c':=by
      unfold Sl.v
      dsimp only
      rw[List.length_take,Nat.min_eq_left hk']
     have hlay:laid O 268 [.slice a' (i+1) c']=aT ⟨s.T,s.D,s.q,⟨⟨a',c'⟩,s.pr.l.take (i+1)⟩,0,default,default,default,s.qu,s.pg,fun j=>⟨hs j,(s.sp j).l⟩,default,default,default,s.tr,⟨default,0,0,0,Hd.nil,[],Hd.nil,[],default,default⟩,default,0,default,fun _=>false,default,s.rc,s.ac,default⟩:=by
      rw[← hv,hO]
      kernel_rfl
     refine⟨(i+1,a',c',C',aT ⟨s.T,s.D,s.q,⟨⟨a',c'⟩,s.pr.l.take (i+1)⟩,0,default,default,default,s.qu,s.pg,fun j=>⟨hs j,(s.sp j).l⟩,default,default,default,s.tr,⟨default,0,0,0,Hd.nil,[],Hd.nil,[],default,default⟩,default,0,default,fun _=>false,default,s.rc,s.ac,default⟩),⟨⟨hk',by dsimp only;rw[fg hk'];exact hO',rfl⟩,by dsimp only;omega⟩,?_,?_,?_⟩
     · conv=>whnf
       refine⟨?_,rfl⟩
       repeat (first | exact au.nil | refine au.any ?_ | refine au.cons ?_ | refine au.eq (by rw[wrap_i64 (by omega)];rfl) ?_)
     · conv=>whnf
       exact trivial
     · rw[← hlay]
       exact ax.of_le ⟨(List.Sublist.refl [_,_,_]).append (List.sublist_append_left _ _),fun w hw=>hw⟩
   · have hke:i=s.pr.l.length:=by
      simp only[ao,decide_eq_false_iff_not] at hlt2
      omega
     subst hke
     rw[List.take_length] at hOw hO
     have hprO:(⟨apr,cpr⟩:Hd).Ok s.pr.l.length:=⟨hOw.cJ,hOw.fit⟩
     have hEn:ax ⟨fun w=>((s.Rows w∧s.nw.At aU w)∧∀ j,j<32→(⟨hs j,(s.sp j).l⟩:Sl Se).At bT w),[(br,Row.c E),(b2,Row.c Z),(b3,Row.c O)]++bo apr C⟩ ⟨fun w=>(((s.Rows w∧s.nw.At aU w)∧∀ j,j<32→(⟨hs j,(s.sp j).l⟩:Sl Se).At bT w)∧ai w apr (s.pr.l.flatMap b_)),[(br,Row.c E),(b2,Row.c Z),(b3,Row.c O)]⟩:=
      ax.trans (ax.of_le (F':=⟨fun w=>((s.Rows w∧s.nw.At aU w)∧∀ j,j<32→(⟨hs j,(s.sp j).l⟩:Sl Se).At bT w),[(br,Row.c E),(b2,Row.c Z),(b3,Row.c O)]++bo apr C ++ []⟩) ⟨by simp,fun w hw=>hw⟩) (ax.trans (hOw.share (r1:=[(br,Row.c E),(b2,Row.c Z),(b3,Row.c O)]) (r2:=[])) (ax.of_le ⟨by simp,fun w hw=>hw⟩))
     clear hOs hlt2 hk hrow hho hle hOw hOl
     conv=>whnf
     repeat (refine aa.of ?_;conv=>whnf)
     first | refine ar.bZ hEn ?_
     clear hEn
     refine ar.aj (ak.aH ae rfl rfl (ad:=⟨br,0,none⟩) (k:=269) (L:=E) (v:=.int .i64 s.nx) (aK.row (List.Mem.head _)) (fun _=>rfl) hR.eNx ?_)
     conv=>whnf
     repeat (refine aa.of ?_;conv=>whnf)
     have hOl:O.length=376:=by rw[hO];exact ba _
     refine aP.bZ (F':=⟨fun w=>(((s.Rows w∧s.nw.At aU w)∧∀ j,j<32→(⟨hs j,(s.sp j).l⟩:Sl Se).At bT w)∧ai w apr (s.pr.l.flatMap b_)),[(br,Row.c E),(b2,Row.c Z)] ++ [(b3,Row.c O)] ++ []⟩) (ax.of_le ⟨List.Sublist.refl _,fun w hw=>hw⟩) ?_
     refine aP.aX ae rfl (b:=b3) (k:=269) (X:=aT ⟨s.T,s.D,s.q,⟨⟨apr,cpr⟩,s.pr.l⟩,s.nx,default,default,default,s.qu,s.pg,fun j=>⟨hs j,(s.sp j).l⟩,default,default,default,s.tr,⟨default,0,0,0,Hd.nil,[],Hd.nil,[],default,default⟩,default,0,default,fun _=>false,default,s.rc,s.ac,default⟩) rfl rfl (List.all_eq_true.1 (by rfl)) (by rw[hOl];decide) (by rw[hO];kernel_rfl) ?_
     clear hO hOl
     obtain⟨O,hO⟩ : ∃ O,O=aT ⟨s.T,s.D,s.q,⟨⟨apr,cpr⟩,s.pr.l⟩,s.nx,default,default,default,s.qu,s.pg,fun j=>⟨hs j,(s.sp j).l⟩,default,default,default,s.tr,⟨default,0,0,0,Hd.nil,[],Hd.nil,[],default,default⟩,default,0,default,fun _=>false,default,s.rc,s.ac,default⟩:=⟨_,rfl⟩
     rw[← hO]
     conv=>whnf
     repeat (refine aa.of ?_;conv=>whnf)
     refine ar.aj (ak.aH ae rfl rfl (ad:=⟨br,0,none⟩) (k:=270) (L:=E) (v:=s.cp.h.v s.cp.l.length) (aK.row (List.Mem.head _)) (fun _=>rfl) hR.eCp ?_)
     conv=>whnf
     repeat (refine aa.of ?_;conv=>whnf)
     obtain⟨hho,hle⟩:s.cp.h.Ok s.cp.l.length∧s.cp.l.length≤1000000:=⟨ho.cp.h,hm.cp⟩
     have hrow : ∀ w,(((s.Rows w∧s.nw.At aU w)∧∀ j,j<32→(⟨hs j,(s.sp j).l⟩:Sl Se).At bT w)∧ai w apr (s.pr.l.flatMap b_))→ai w s.cp.h.a (s.cp.l.flatMap bx):=fun w hw=>by
      have hw:=hw.1.1
      exact hw.1.cp
     refine az.kN ae (ι:=Nat×Option Addr×Nat×List Value×List Value) ([7,8]++List.range' 105 26)
      (fun x=>x.1≤s.cp.l.length∧cZ 6 x.1 x.2.1 x.2.2.1 x.2.2.2.1 ((s.cp.l.take x.1).flatMap bx)∧x.2.2.2.2=aT ⟨s.T,s.D,s.q,⟨⟨apr,cpr⟩,s.pr.l⟩,s.nx,⟨⟨x.2.1,x.2.2.1⟩,s.cp.l.take x.1⟩,default,default,s.qu,s.pg,fun j=>⟨hs j,(s.sp j).l⟩,default,default,default,s.tr,⟨default,0,0,0,Hd.nil,[],Hd.nil,[],default,default⟩,default,0,default,fun _=>false,default,s.rc,s.ac,default⟩)
      (fun x=>[(105,.v (.int .i64 (x.1:Int)))]) (fun x=>⟨fun w=>(((s.Rows w∧s.nw.At aU w)∧∀ j,j<32→(⟨hs j,(s.sp j).l⟩:Sl Se).At bT w)∧ai w apr (s.pr.l.flatMap b_)),[(br,Row.c E),(b2,Row.c Z),(b3,Row.c x.2.2.2.2)]++bo x.2.1 x.2.2.2.1⟩)
      (fun x=>s.cp.l.length - x.1) (0,none,0,[],O) ⟨Nat.zero_le _,cZ.nil 6,hO⟩ ?_ (ax.of_le ⟨List.Sublist.refl _,fun w hw=>hw⟩) fun x hx=>?_
     · conv=>whnf
       repeat (first | exact au.nil | refine au.any ?_ | refine au.cons ?_)
     clear hO
     obtain⟨i,acp,ccp,C,O⟩:=x
     obtain⟨hk,hOw,hO⟩:=hx
     dsimp only at hk hOw hO ⊢
     have hOl:O.length=376:=by rw[hO];exact ba _
     have hOs:O[270]? = some (.slice acp i ccp):=by
      have h1:(aT ⟨s.T,s.D,s.q,⟨⟨apr,cpr⟩,s.pr.l⟩,s.nx,⟨⟨acp,ccp⟩,s.cp.l.take i⟩,default,default,s.qu,s.pg,fun j=>⟨hs j,(s.sp j).l⟩,default,default,default,s.tr,⟨default,0,0,0,Hd.nil,[],Hd.nil,[],default,default⟩,default,0,default,fun _=>false,default,s.rc,s.ac,default⟩)[270]? = some (⟨⟨acp,ccp⟩,s.cp.l.take i⟩:Sl Cp).v:=by kernel_rfl
      rw[hO,h1]
      unfold Sl.v
      dsimp only
      rw[List.length_take,Nat.min_eq_left hk]
     conv=>whnf
     repeat (refine aa.of ?_;conv=>whnf)
     refine bF.split (fun hlt2=>?_) (fun hlt2=>?_)
     · have hk':i<s.cp.l.length:=by
        simp only[ao,decide_eq_true_eq] at hlt2
        omega
       repeat' (first
        | (refine ar.aj (ak.aH ae rfl rfl (ad:=⟨b3,0,none⟩) (k:=270) (L:=O) (v:=.slice acp i ccp) (aK.row (List.Mem.tail _ (List.Mem.tail _ (List.Mem.head _)))) (fun _=>rfl) hOs ?_);conv=>whnf)
        | (refine ar.aj (ak.aH ae rfl rfl (ad:=⟨br,0,none⟩) (k:=270) (L:=E) (v:=s.cp.h.v s.cp.l.length) (aK.row (List.Mem.head _)) (fun _=>rfl) hR.eCp ?_);conv=>whnf)
        | (refine ar.aj (ak.index ae rfl rfl rfl (by omega) (by omega) hho.nil fun ad had=>?_);conv=>whnf)
        | (refine ar.aj (ak.aQ ae rfl rfl (ad:=ad) (k:=i*6) (L:=s.cp.l.flatMap bx) (m:=bx s.cp.l[i]) (.fact fun w hw=>had ▸ hrow w hw) (by simp) (a8 (cf:=bx) (z:=6) (fun _=>rfl) hk') rfl ?_);conv=>whnf)
        | (intro b8;conv=>whnf)
        | (refine ar.build ae rfl rfl rfl [.agg ⟨bx s.cp.l[i]⟩] rfl rfl (by simp[Value.cells,bx]) (by decide) fun b5=>?_;conv=>whnf)
        | (refine ar.bZ (F':=⟨fun w=>(((s.Rows w∧s.nw.At aU w)∧∀ j,j<32→(⟨hs j,(s.sp j).l⟩:Sl Se).At bT w)∧ai w apr (s.pr.l.flatMap b_)),[(br,Row.c E),(b2,Row.c Z),(b3,Row.c O)]++bo acp C ++ [(b5,Row.c (bx s.cp.l[i]))]⟩) (ax.of_le ⟨by simp[Value.cells],fun w hw=>hw⟩) ?_;refine ar.append ae rfl rfl rfl rfl rfl rfl (r1:=[(br,Row.c E),(b2,Row.c Z),(b3,Row.c O)]) (r2:=[(b5,Row.c (bx s.cp.l[i]))]) (M:=bx s.cp.l[i]) hOw (aK.row (by simp)) rfl (List.all_eq_true.1 (show(bx s.cp.l[i]).all a7=true from rfl)) (by omega) (by simp;omega) fun a' c' C' hO'=>?_;conv=>whnf)
        | (refine aP.bZ (F':=⟨fun w=>(((s.Rows w∧s.nw.At aU w)∧∀ j,j<32→(⟨hs j,(s.sp j).l⟩:Sl Se).At bT w)∧ai w apr (s.pr.l.flatMap b_)),[(br,Row.c E),(b2,Row.c Z)] ++ [(b3,Row.c O)]++([]++bo a' C' ++ [(b5,Row.c (bx s.cp.l[i]))])⟩) (ax.of_le ⟨by simp,fun w hw=>hw⟩) ?_;refine aP.cO ae rfl (b:=b3) (k:=270) rfl rfl (by simp[Value.cells,a7]) (by rw[hOl];decide) ?_;conv=>whnf))
       have hv:(⟨⟨a',c'⟩,s.cp.l.take (i+1)⟩:Sl Cp).v = .slice a' (i+1) c':=by
        unfold Sl.v
        dsimp only
        rw[List.length_take,Nat.min_eq_left hk']
       have hlay:laid O 270 [.slice a' (i+1) c']=aT ⟨s.T,s.D,s.q,⟨⟨apr,cpr⟩,s.pr.l⟩,s.nx,⟨⟨a',c'⟩,s.cp.l.take (i+1)⟩,default,default,s.qu,s.pg,fun j=>⟨hs j,(s.sp j).l⟩,default,default,default,s.tr,⟨default,0,0,0,Hd.nil,[],Hd.nil,[],default,default⟩,default,0,default,fun _=>false,default,s.rc,s.ac,default⟩:=by
        rw[← hv,hO]
        kernel_rfl
       refine⟨(i+1,a',c',C',aT ⟨s.T,s.D,s.q,⟨⟨apr,cpr⟩,s.pr.l⟩,s.nx,⟨⟨a',c'⟩,s.cp.l.take (i+1)⟩,default,default,s.qu,s.pg,fun j=>⟨hs j,(s.sp j).l⟩,default,default,default,s.tr,⟨default,0,0,0,Hd.nil,[],Hd.nil,[],default,default⟩,default,0,default,fun _=>false,default,s.rc,s.ac,default⟩),⟨⟨hk',by dsimp only;rw[fg hk'];exact hO',rfl⟩,by dsimp only;omega⟩,?_,?_,?_⟩
       · conv=>whnf
         refine⟨?_,rfl⟩
         repeat (first | exact au.nil | refine au.any ?_ | refine au.cons ?_ | refine au.eq (by rw[wrap_i64 (by omega)];rfl) ?_)
       · conv=>whnf
         exact trivial
       · rw[← hlay]
         exact ax.of_le ⟨(List.Sublist.refl [_,_,_]).append (List.sublist_append_left _ _),fun w hw=>hw⟩
     · have hke:i=s.cp.l.length:=by
        simp only[ao,decide_eq_false_iff_not] at hlt2
        omega
       subst hke
       rw[List.take_length] at hOw hO
       have hcpO:(⟨acp,ccp⟩:Hd).Ok s.cp.l.length:=⟨hOw.cJ,hOw.fit⟩
       have hEn:ax ⟨fun w=>(((s.Rows w∧s.nw.At aU w)∧∀ j,j<32→(⟨hs j,(s.sp j).l⟩:Sl Se).At bT w)∧ai w apr (s.pr.l.flatMap b_)),[(br,Row.c E),(b2,Row.c Z),(b3,Row.c O)]++bo acp C⟩ ⟨fun w=>((((s.Rows w∧s.nw.At aU w)∧∀ j,j<32→(⟨hs j,(s.sp j).l⟩:Sl Se).At bT w)∧ai w apr (s.pr.l.flatMap b_))∧ai w acp (s.cp.l.flatMap bx)),[(br,Row.c E),(b2,Row.c Z),(b3,Row.c O)]⟩:=
        ax.trans (ax.of_le (F':=⟨fun w=>(((s.Rows w∧s.nw.At aU w)∧∀ j,j<32→(⟨hs j,(s.sp j).l⟩:Sl Se).At bT w)∧ai w apr (s.pr.l.flatMap b_)),[(br,Row.c E),(b2,Row.c Z),(b3,Row.c O)]++bo acp C ++ []⟩) ⟨by simp,fun w hw=>hw⟩) (ax.trans (hOw.share (r1:=[(br,Row.c E),(b2,Row.c Z),(b3,Row.c O)]) (r2:=[])) (ax.of_le ⟨by simp,fun w hw=>hw⟩))
       clear hOs hlt2 hk hrow hho hle hOw hOl
       conv=>whnf
       repeat (refine aa.of ?_;conv=>whnf)
       first
        | refine⟨⟨⟨apr,cpr⟩,⟨acp,ccp⟩,O⟩,⟨hprO,hcpO,hO⟩,[],⟨by decide,by simp,rfl⟩,?_,hEn⟩
       repeat (first | exact au.nil | refine au.any ?_ | refine au.cons ?_)
 · intro x hx bs' hbs'
   obtain⟨pr,cp,O⟩:=x
   obtain⟨hpr,hcp,hO⟩:=hx
   rw[aS]
   exact Dk s ho hm w0 av E hR Z hZ br b2 b3 hs hsO pr hpr cp hcp O hO bs' hbs'
theorem Ak (s:bW) (ho:s.Ok) (hm:s.Small):af Tryz.prog 9 [.agg ⟨jN s⟩] (fun w=>s.Rows w∧s.nw.At aU w) (BZ s):=by
 have hR:=Dv s
 generalize jN s=E at hR ⊢
 obtain⟨Z,hZ⟩ : ∃ Z,aT kS=Z:=⟨_,rfl⟩
 have hZl:Z.length=376:=by rw[← hZ];exact ba _
 refine af.iL ae Tryz.func9 (c:=toCode) rfl (by decide) (n:=Tryz.f9.ntmps - 1) rfl fun w0 av=>?_
 show az Tryz.prog w0 (fun _ _=>False) av toCode _ [] [] _ (toEnd s)
 refine az.cr ae 3 (ι:=Nat×Nat×Nat×(Nat→Hd)×List Value) (fun x=>(∀ j,j<32→(⟨x.2.2.2.1 j,(s.sp j).l⟩:Sl Se).Ok)∧x.2.2.2.2=aT ⟨s.T,s.D,default,default,0,default,default,default,s.qu,s.pg,fun j=>⟨x.2.2.2.1 j,(s.sp j).l⟩,default,default,default,s.tr,⟨default,0,0,0,Hd.nil,[],Hd.nil,[],default,default⟩,default,0,default,fun _=>false,default,s.rc,s.ac,default⟩) (fun x=>uf x.1 x.2.1 x.2.2.1) (fun x=>[]) (fun x=>⟨fun w=>((s.Rows w∧s.nw.At aU w)∧∀ j,j<32→(⟨x.2.2.2.1 j,(s.sp j).l⟩:Sl Se).At bT w),[(x.1,Row.c E),(x.2.1,Row.c Z),(x.2.2.1,Row.c x.2.2.2.2)]⟩) ?_ ?_
 · conv=>whnf
   repeat (refine aa.of ?_;conv=>whnf)
   refine ar.bQ fun br=>?_
   conv=>whnf
   repeat (refine aa.of ?_;conv=>whnf)
   refine ar.cT ae rfl (z:=aT kS) (by kernel_rfl) fun b2=>?_
   conv=>whnf
   repeat (refine aa.of ?_;conv=>whnf)
   repeat' (first
    | (refine ar.aj (ak.aQ ae rfl rfl (ad:=⟨br,0,none⟩) (k:=256) (L:=E) (m:=(List.range 11).map fun i=>Value.bool (s.D i)) (aK.row (List.Mem.head _)) rfl hR.eD rfl ?_);conv=>whnf)
    | (refine ar.aj (ak.aQ ae rfl rfl (ad:=⟨br,0,none⟩) (k:=318) (L:=E) (m:=rJ s.tr) (aK.row (List.Mem.head _)) rfl hR.eTr rfl ?_);conv=>whnf)
    | (refine ar.aj (ak.aH ae rfl rfl (ad:=⟨br,0,none⟩) (k:=273) (L:=E) (v:=s.qu.v) (aK.row (List.Mem.head _)) (fun _=>rfl) hR.eQu ?_);conv=>whnf)
    | (refine ar.aj (ak.aH ae rfl rfl (ad:=⟨br,0,none⟩) (k:=274) (L:=E) (v:=s.pg.v) (aK.row (List.Mem.head _)) (fun _=>rfl) hR.ePg ?_);conv=>whnf)
    | (refine ar.aj (ak.aH ae rfl rfl (ad:=⟨br,0,none⟩) (k:=377) (L:=E) (v:=s.rc.v) (aK.row (List.Mem.head _)) (fun _=>rfl) hR.eRc ?_);conv=>whnf)
    | (refine ar.aj (ak.aH ae rfl rfl (ad:=⟨br,0,none⟩) (k:=378) (L:=E) (v:=s.ac.v) (aK.row (List.Mem.head _)) (fun _=>rfl) hR.eAc ?_);conv=>whnf)
    | (refine ar.aj (ak.fo ae rfl rfl (kE (n:=376) (X:=aT ⟨fun _=>default,s.D,default,default,0,default,default,default,s.qu,s.pg,fun _=>default,default,default,default,s.tr,⟨default,0,0,0,Hd.nil,[],Hd.nil,[],default,default⟩,default,0,default,fun _=>false,default,s.rc,s.ac,default⟩) (by kernel_rfl) (by kernel_rfl) (by kernel_rfl) ?_));conv=>whnf))
   refine ar.cT ae rfl (z:=aT kS) (by kernel_rfl) fun b3=>?_
   conv=>whnf
   repeat (refine aa.of ?_;conv=>whnf)
   obtain⟨O,hO⟩ : ∃ O,O=aT ⟨fun _=>default,s.D,default,default,0,default,default,default,s.qu,s.pg,fun _=>default,default,default,default,s.tr,⟨default,0,0,0,Hd.nil,[],Hd.nil,[],default,default⟩,default,0,default,fun _=>false,default,s.rc,s.ac,default⟩:=⟨_,rfl⟩
   have hOl:O.length=376:=by rw[hO];exact ba _
   rw[← hO]
   have hZ':aT kS=Z:=hZ
   rw[hZ']
   refine aP.bZ (F':=⟨fun w=>s.Rows w∧s.nw.At aU w,[(br,Row.c E),(b2,Row.c Z)] ++ [(b3,Row.c Z)] ++ []⟩) (ax.of_le ⟨List.Sublist.refl _,fun w hw=>hw⟩) ?_
   refine aP.cO ae rfl (b:=b3) (k:=0) rfl (by exact hOl) (by rw[hO];exact fT _) (by rw[hZl];exact Nat.le_refl _) ?_
   rw[show laid Z 0 (Value.agg ⟨O⟩).cells.toList=O from bP (by rw[hZl];exact hOl)]
   conv=>whnf
   repeat (refine aa.of ?_;conv=>whnf)
   refine az.loop ae (ι:=Nat×(Nat→Hd)×List Value) ([4,5]++List.range' 34 36)
    (fun x=>x.1≤32∧(∀ j,j<x.1→(⟨x.2.1 j,(s.sp j).l⟩:Sl Se).Ok)∧x.2.2=aT ⟨fun j=>if j<x.1 then s.T j else default,s.D,default,default,0,default,default,default,s.qu,s.pg,fun j=>if j<x.1 then ⟨x.2.1 j,(s.sp j).l⟩ else default,default,default,default,s.tr,⟨default,0,0,0,Hd.nil,[],Hd.nil,[],default,default⟩,default,0,default,fun _=>false,default,s.rc,s.ac,default⟩)
    (fun x=>[(34,.v (.int .i64 (x.1:Int)))]) (fun _=>[]) (fun x=>⟨fun w=>(s.Rows w∧s.nw.At aU w)∧∀ j,j<x.1→(⟨x.2.1 j,(s.sp j).l⟩:Sl Se).At bT w,[(br,Row.c E),(b2,Row.c Z),(b3,Row.c x.2.2)]⟩)
    (fun x=>32 - x.1) (0,fun _=>Hd.nil,O) ⟨Nat.zero_le _,(fun j h=>by omega),hO.trans (by kernel_rfl)⟩ ?_ rfl (ax.of_le ⟨List.Sublist.refl _,fun w hw=>⟨hw,fun j h=>by omega⟩⟩) fun x hx=>?_
   · conv=>whnf
     repeat (first | exact au.nil | refine au.any ?_ | refine au.cons ?_)
   clear hO hOl
   obtain⟨i,hs,O⟩:=x
   obtain⟨hi,hok,hO⟩:=hx
   dsimp only at hi hok hO ⊢
   conv=>whnf
   repeat (refine aa.of ?_;conv=>whnf)
   refine bF.split (fun hlt=>?_) (fun hlt=>?_)
   · have hlt':i<32:=by
      simp[ao] at hlt
      omega
     obtain⟨σ,hσ⟩ : ∃ σ:bW,σ=⟨fun j=>if j<i then s.T j else default,s.D,default,default,0,default,default,default,s.qu,s.pg,fun j=>if j<i then ⟨hs j,(s.sp j).l⟩ else default,default,default,default,s.tr,⟨default,0,0,0,Hd.nil,[],Hd.nil,[],default,default⟩,default,0,default,fun _=>false,default,s.rc,s.ac,default⟩:=⟨_,rfl⟩
     rw[← hσ] at hO
     have hTi:σ.T=fun j=>if j<i then s.T j else default:=by rw[hσ]
     have hSi:σ.sp i=default:=by rw[hσ];exact if_neg (Nat.lt_irrefl _)
     have hOl:O.length=376:=by rw[hO];exact ba _
     conv=>whnf
     repeat (refine aa.of ?_;conv=>whnf)
     refine ar.aj (ak.bj ae rfl rfl rfl i rfl hlt' rfl ?_)
     conv=>whnf
     repeat (refine aa.of ?_;conv=>whnf)
     refine ar.aj (ak.aQ ae rfl rfl (ad:=⟨br,0,none⟩) (k:=i*8) (L:=E) (m:=fL (s.T i)) (aK.row (List.Mem.head _)) rfl (hR.eT i hlt') rfl ?_)
     conv=>whnf
     repeat (refine aa.of ?_;conv=>whnf)
     refine ar.aj (ak.bj ae rfl rfl rfl i rfl hlt' rfl ?_)
     conv=>whnf
     repeat (refine aa.of ?_;conv=>whnf)
     refine aP.bZ (F':=⟨fun w=>(s.Rows w∧s.nw.At aU w)∧∀ j,j<i→(⟨hs j,(s.sp j).l⟩:Sl Se).At bT w,[(br,Row.c E),(b2,Row.c Z)] ++ [(b3,Row.c O)] ++ []⟩) (ax.of_le ⟨List.Sublist.refl _,fun w hw=>hw⟩) ?_
     refine aP.cO ae rfl (b:=b3) (k:=i*8) (by rw[jR,Nat.zero_add]) rfl (List.all_eq_true.1 (show(fL (s.T i)).all a7=true from rfl)) (by rw[hOl];show i*8+8≤376;omega) ?_
     rw[show laid O (i*8) (Value.agg ⟨fL (s.T i)⟩).cells.toList=aT { σ with T:=j9 σ.T i (s.T i) } from by rw[hO];exact Dq σ (s.T i) i hlt']
     rw[hTi,zo]
     clear hTi hO hOl
     obtain⟨σ1,hσ1⟩ : ∃ σ1:bW,σ1={ σ with T:=fun j=>if j<(i+1) then s.T j else default }:=⟨_,rfl⟩
     rw[← hσ1]
     have hS1:σ1.sp i=default:=by rw[hσ1];exact hSi
     obtain⟨O,hO⟩ : ∃ O,O=aT σ1:=⟨_,rfl⟩
     rw[← hO]
     conv=>whnf
     repeat (refine aa.of ?_;conv=>whnf)
     refine ar.aj (ak.bj ae rfl rfl rfl i rfl hlt' rfl ?_)
     conv=>whnf
     repeat (refine aa.of ?_;conv=>whnf)
     obtain⟨l,hl⟩ : ∃ l,(s.sp i).l=l:=⟨_,rfl⟩
     obtain⟨h,hh⟩ : ∃ h,(s.sp i).h=h:=⟨_,rfl⟩
     have hok1:=ho.sp i hlt'
     have hsv:(s.sp i).v=h.v l.length:=by rw[← hl,← hh];rfl
     have hho:h.Ok l.length:=by rw[← hl,← hh];exact hok1.h
     have hle:l.length≤1000000:=by rw[← hl];exact ho.sl i hlt'
     have hrow : ∀ w,s.Rows w→ai w h.a (l.flatMap bT):=fun w hw=>by rw[← hl,← hh];exact hw.sp i hlt'
     refine ar.aj (ak.aH ae rfl rfl (ad:=⟨br,0,none⟩) (k:=275+i*1) (L:=E) (v:=h.v l.length) (aK.row (List.Mem.head _)) (fun _=>Addr.bD rfl _ _) (by rw[Nat.mul_one,← hsv];exact hR.eS i hlt') ?_)
     conv=>whnf
     repeat (refine aa.of ?_;conv=>whnf)
     refine az.loop ae (ι:=Nat×Option Addr×Nat×List Value×List Value) (5::List.range' 49 20)
      (fun y=>y.1≤l.length∧cZ 3 y.1 y.2.1 y.2.2.1 y.2.2.2.1 ((l.take y.1).flatMap bT)∧y.2.2.2.2=aT { σ1 with sp:=j9 σ1.sp i ⟨⟨y.2.1,y.2.2.1⟩,l.take y.1⟩ })
      (fun y=>[(49,.v (.int .i64 (y.1:Int)))]) (fun _=>[]) (fun y=>⟨fun w=>(s.Rows w∧s.nw.At aU w)∧∀ j,j<i→(⟨hs j,(s.sp j).l⟩:Sl Se).At bT w,[(br,Row.c E),(b2,Row.c Z),(b3,Row.c y.2.2.2.2)]++bo y.2.1 y.2.2.2.1⟩)
      (fun y=>l.length - y.1) (0,none,0,[],O) ⟨Nat.zero_le _,cZ.nil 3,by show O=aT { σ1 with sp:=j9 σ1.sp i default };rw[yr hS1];exact hO⟩ ?_ rfl (ax.of_le ⟨List.Sublist.refl _,fun w hw=>hw⟩) fun y hy=>?_
     · conv=>whnf
       repeat (first | exact au.nil | refine au.any ?_ | refine au.cons ?_)
     clear hO
     obtain⟨k,a,c,C,O⟩:=y
     obtain⟨hk,hOw,hO⟩:=hy
     dsimp only at hk hOw hO ⊢
     have hOl:O.length=376:=by rw[hO];exact ba _
     have hOs:O[275+i*1]? = some (.slice a k c):=by
      rw[hO,Nat.mul_one,w9 _ i hlt']
      dsimp only[j9]
      rw[if_pos rfl]
      unfold Sl.v
      dsimp only
      rw[List.length_take,Nat.min_eq_left hk]
     conv=>whnf
     repeat (refine aa.of ?_;conv=>whnf)
     refine bF.split (fun hlt2=>?_) (fun hlt2=>?_)
     · have hk':k<l.length:=by
        simp only[ao,decide_eq_true_eq] at hlt2
        omega
       conv=>whnf
       repeat (refine aa.of ?_;conv=>whnf)
       refine az.draw ae mixed rfl rfl ?_
       conv=>whnf
       repeat' (first
        | (refine cj.row rfl ?_;conv=>whnf)
        | (refine ak.bj ae rfl rfl rfl i rfl hlt' rfl ?_;conv=>whnf)
        | (refine ak.aH ae rfl rfl (ad:=⟨b3,0,none⟩) (k:=275+i*1) (L:=O) (v:=.slice a k c) (aK.row (List.Mem.tail _ (List.Mem.tail _ (List.Mem.head _)))) (fun _=>Addr.bD rfl _ _) hOs ?_;conv=>whnf)
        | (refine ak.aH ae rfl rfl (ad:=⟨br,0,none⟩) (k:=275+i*1) (L:=E) (v:=h.v l.length) (aK.row (List.Mem.head _)) (fun _=>Addr.bD rfl _ _) (by rw[Nat.mul_one,← hsv];exact hR.eS i hlt') ?_;conv=>whnf)
        | (refine ak.index ae rfl rfl rfl (by omega) (by omega) hho.nil fun ad had=>?_;conv=>whnf)
        | (refine ak.aQ ae rfl rfl (ad:=ad) (k:=k*3) (L:=l.flatMap bT) (m:=bT l[k]) (.fact fun w hw=>had ▸ hrow w hw.1.1) (by simp) (a8 (cf:=bT) (z:=3) (fun _=>rfl) hk') rfl ?_;conv=>whnf)
        | (refine ar.build ae rfl rfl rfl [.agg ⟨bT l[k]⟩] rfl rfl (by simp[Value.cells,bT]) (by decide) fun b5=>?_;conv=>whnf)
        | (refine ar.bZ (F':=⟨fun w=>(s.Rows w∧s.nw.At aU w)∧∀ j,j<i→(⟨hs j,(s.sp j).l⟩:Sl Se).At bT w,[(br,Row.c E),(b2,Row.c Z),(b3,Row.c O)]++bo a C ++ [(b5,Row.c (bT l[k]))]⟩) (ax.of_le ⟨by simp[Value.cells],fun w hw=>hw⟩) ?_;refine ar.append ae rfl rfl rfl rfl rfl rfl (r1:=[(br,Row.c E),(b2,Row.c Z),(b3,Row.c O)]) (r2:=[(b5,Row.c (bT l[k]))]) (M:=bT l[k]) hOw (aK.row (by simp)) rfl (by simp[bT,a7]) (by omega) (by simp;omega) fun a' c' C' hO'=>?_;conv=>whnf)
        | (refine aP.bZ (F':=⟨fun w=>(s.Rows w∧s.nw.At aU w)∧∀ j,j<i→(⟨hs j,(s.sp j).l⟩:Sl Se).At bT w,[(br,Row.c E),(b2,Row.c Z)] ++ [(b3,Row.c O)]++(bo a' C' ++ [(b5,Row.c (bT l[k]))])⟩) (ax.of_le ⟨List.Sublist.refl _,fun w hw=>hw⟩) ?_;refine aP.cO ae rfl (b:=b3) (k:=275+i) (by rw[jR];simp) rfl (by simp[Value.cells,a7]) (by rw[hOl];show 275+i+1≤376;omega) ?_;conv=>whnf))
       have hlay:laid O (275+i) [.slice a' (k+1) c']=aT { σ1 with sp:=j9 σ1.sp i ⟨⟨a',c'⟩,l.take (k+1)⟩ }:=by
        have h1:=Cj { σ1 with sp:=j9 σ1.sp i ⟨⟨a,c⟩,l.take k⟩ } ⟨⟨a',c'⟩,l.take (k+1)⟩ i hlt'
        rw[← hO] at h1
        dsimp only at h1
        rw[Aj] at h1
        rw[← h1]
        unfold Sl.v
        dsimp only
        rw[List.length_take,Nat.min_eq_left hk']
       refine⟨(k+1,a',c',C',aT { σ1 with sp:=j9 σ1.sp i ⟨⟨a',c'⟩,l.take (k+1)⟩ }),⟨⟨hk',by dsimp only;rw[fg hk'];exact hO',rfl⟩,by dsimp only;omega⟩,?_,?_,?_⟩
       · conv=>whnf
         refine⟨?_,rfl⟩
         repeat (first | exact au.nil | refine au.any ?_ | refine au.cons ?_ | refine au.eq (by rw[wrap_i64 (by omega)];rfl) ?_)
       · conv=>whnf
         exact trivial
       · rw[← hlay]
         exact ax.of_le ⟨(List.Sublist.refl [_,_,_]).append (List.sublist_append_left _ _),fun w hw=>hw⟩
     · have hke:k=l.length:=by
        simp only[ao,decide_eq_false_iff_not] at hlt2
        omega
       subst hke
       rw[List.take_length] at hOw hO
       have hO2:O=aT ⟨fun j=>if j<(i+1) then s.T j else default,s.D,default,default,0,default,default,default,s.qu,s.pg,fun j=>if j<(i+1) then ⟨j9 hs i ⟨a,c⟩ j,(s.sp j).l⟩ else default,default,default,default,s.tr,⟨default,0,0,0,Hd.nil,[],Hd.nil,[],default,default⟩,default,0,default,fun _=>false,default,s.rc,s.ac,default⟩:=by
        rw[hO,hσ1,hσ]
        dsimp only
        have e:j9 (fun j=>if j<i then (⟨hs j,(s.sp j).l⟩:Sl Se) else default) i ⟨⟨a,c⟩,l⟩=fun j=>if j<i+1 then ⟨j9 hs i ⟨a,c⟩ j,(s.sp j).l⟩ else default:=by
         funext j
         unfold j9
         dsimp only
         by_cases hj:j=i
         · subst hj
           rw[if_pos rfl,if_pos (by omega),if_pos rfl,hl]
         · rw[if_neg hj,if_neg hj]
           by_cases h2:j<i
           · rw[if_pos h2,if_pos (by omega)]
           · rw[if_neg h2,if_neg (by omega)]
        rw[e]
       have hokn : ∀ j,j<i+1→(⟨j9 hs i ⟨a,c⟩ j,(s.sp j).l⟩:Sl Se).Ok:=fun j hj=>by
        unfold j9
        by_cases h2:j=i
        · subst h2
          rw[if_pos rfl,hl]
          exact⟨⟨hOw.cJ,hOw.fit⟩,by dsimp only;omega⟩
        · rw[if_neg h2]
          exact hok j (by omega)
       conv=>whnf
       repeat (refine aa.of ?_;conv=>whnf)
       refine⟨(i+1,j9 hs i ⟨a,c⟩,O),⟨⟨hlt',hokn,hO2⟩,by dsimp only;omega⟩,?_,?_,?_⟩
       · conv=>whnf
         refine⟨?_,rfl⟩
         repeat (first | exact au.nil | refine au.any ?_ | refine au.cons ?_ | refine au.eq (by rw[wrap_i64 (by omega)];rfl) ?_)
       · conv=>whnf
         exact trivial
       · refine ax.trans (ax.of_le (F':=⟨fun w=>(s.Rows w∧s.nw.At aU w)∧∀ j,j<i→(⟨hs j,(s.sp j).l⟩:Sl Se).At bT w,[(br,Row.c E),(b2,Row.c Z),(b3,Row.c O)]++bo a C ++ []⟩) ⟨by simp,fun w hw=>hw⟩) (ax.trans (hOw.share (r1:=[(br,Row.c E),(b2,Row.c Z),(b3,Row.c O)]) (r2:=[])) (ax.of_le ⟨by simp,fun w hw=>⟨hw.1.1,fun j hj=>?_⟩⟩))
         unfold j9 Sl.At
         dsimp only
         by_cases h2:j=i
         · subst h2
           rw[if_pos rfl,hl]
           exact hw.2
         · rw[if_neg h2]
           exact hw.1.2 j (by omega)
   · have hie:i=32:=by
      simp[ao] at hlt
      omega
     subst hie
     replace hO:=hO.trans (show aT ⟨fun j=>if j<32 then s.T j else default,s.D,default,default,0,default,default,default,s.qu,s.pg,fun j=>if j<32 then ⟨hs j,(s.sp j).l⟩ else default,default,default,default,s.tr,⟨default,0,0,0,Hd.nil,[],Hd.nil,[],default,default⟩,default,0,default,fun _=>false,default,s.rc,s.ac,default⟩=aT ⟨s.T,s.D,default,default,0,default,default,default,s.qu,s.pg,fun j=>⟨hs j,(s.sp j).l⟩,default,default,default,s.tr,⟨default,0,0,0,Hd.nil,[],Hd.nil,[],default,default⟩,default,0,default,fun _=>false,default,s.rc,s.ac,default⟩ from by kernel_rfl)
     conv=>whnf
     repeat (refine aa.of ?_;conv=>whnf)
     refine⟨(br,b2,b3,hs,O),⟨hok,hO⟩,[],⟨by decide,by simp,rfl⟩,?_,ax.refl _⟩
     repeat (first | exact au.nil | refine au.any ?_ | refine au.cons ?_)
 · intro x hx bs' hbs'
   obtain⟨br,b2,b3,hs,O⟩:=x
   obtain⟨hsO,hO⟩:=hx
   exact Dy s ho hm w0 av E hR Z hZl br b2 b3 hs hsO O hO bs' hbs'
theorem ta:af Tryz.prog 31 [.slice none 0 0] (fun _=>True) (fun v F=>v = .slice none 0 0):=by
 refine af.aG ae Tryz.func31 rfl (by decide) (n:=Tryz.f31.ntmps - 1) rfl rfl fun w0 av=>?_
 conv=>whnf
 repeat (refine aa.of ?_;conv=>whnf)
 refine ar.aj (ak.eP ae (t:=92) rfl rfl ?_)
 conv=>whnf
 repeat (refine aa.of ?_;conv=>whnf)
 exact⟨_,ax.refl _,rfl⟩
theorem uJ:af Tryz.prog 32 [.slice none 0 0] (fun _=>True) (fun v F=>v = .slice none 0 0):=by
 refine af.aG ae Tryz.func32 rfl (by decide) (n:=Tryz.f32.ntmps - 1) rfl rfl fun w0 av=>?_
 conv=>whnf
 repeat (refine aa.of ?_;conv=>whnf)
 refine ar.aj (ak.eP ae (t:=27) rfl rfl ?_)
 conv=>whnf
 repeat (refine aa.of ?_;conv=>whnf)
 exact⟨_,ax.refl _,rfl⟩
theorem tO:af Tryz.prog 33 [.slice none 0 0] (fun _=>True) (fun v F=>v = .slice none 0 0):=by
 refine af.aG ae Tryz.func33 rfl (by decide) (n:=Tryz.f33.ntmps - 1) rfl rfl fun w0 av=>?_
 conv=>whnf
 repeat (refine aa.of ?_;conv=>whnf)
 refine ar.aj (ak.eP ae (t:=79) rfl rfl ?_)
 conv=>whnf
 repeat (refine aa.of ?_;conv=>whnf)
 exact⟨_,ax.refl _,rfl⟩
theorem ue:af Tryz.prog 35 [.slice none 0 0] (fun _=>True) (fun v F=>v = .slice none 0 0):=by
 refine af.aG ae Tryz.func35 rfl (by decide) (n:=Tryz.f35.ntmps - 1) rfl rfl fun w0 av=>?_
 conv=>whnf
 repeat (refine aa.of ?_;conv=>whnf)
 refine ar.aj (ak.eP ae (t:=86) rfl rfl ?_)
 conv=>whnf
 repeat (refine aa.of ?_;conv=>whnf)
 exact⟨_,ax.refl _,rfl⟩
theorem tW:af Tryz.prog 38 [.slice none 0 0] (fun _=>True) (fun v F=>v = .slice none 0 0):=by
 refine af.aG ae Tryz.func38 rfl (by decide) (n:=Tryz.f38.ntmps - 1) rfl rfl fun w0 av=>?_
 conv=>whnf
 repeat (refine aa.of ?_;conv=>whnf)
 refine ar.aj (ak.eP ae (t:=95) rfl rfl ?_)
 conv=>whnf
 repeat (refine aa.of ?_;conv=>whnf)
 exact⟨_,ax.refl _,rfl⟩
theorem s8:af Tryz.prog 40 [.slice none 0 0] (fun _=>True) (fun v F=>v = .slice none 0 0):=by
 refine af.aG ae Tryz.func40 rfl (by decide) (n:=Tryz.f40.ntmps - 1) rfl rfl fun w0 av=>?_
 conv=>whnf
 repeat (refine aa.of ?_;conv=>whnf)
 refine ar.aj (ak.eP ae (t:=103) rfl rfl ?_)
 conv=>whnf
 repeat (refine aa.of ?_;conv=>whnf)
 exact⟨_,ax.refl _,rfl⟩
theorem tY:af Tryz.prog 41 [.slice none 0 0] (fun _=>True) (fun v F=>v = .slice none 0 0):=by
 refine af.aG ae Tryz.func41 rfl (by decide) (n:=Tryz.f41.ntmps - 1) rfl rfl fun w0 av=>?_
 conv=>whnf
 repeat (refine aa.of ?_;conv=>whnf)
 refine ar.aj (ak.eP ae (t:=116) rfl rfl ?_)
 conv=>whnf
 repeat (refine aa.of ?_;conv=>whnf)
 exact⟨_,ax.refl _,rfl⟩
theorem tF:af Tryz.prog 42 [.slice none 0 0] (fun _=>True) (fun v F=>v = .slice none 0 0):=by
 refine af.aG ae Tryz.func42 rfl (by decide) (n:=Tryz.f42.ntmps - 1) rfl rfl fun w0 av=>?_
 conv=>whnf
 repeat (refine aa.of ?_;conv=>whnf)
 refine ar.aj (ak.eP ae (t:=119) rfl rfl ?_)
 conv=>whnf
 repeat (refine aa.of ?_;conv=>whnf)
 exact⟨_,ax.refl _,rfl⟩
theorem tH:af Tryz.prog 44 [.slice none 0 0] (fun _=>True) (fun v F=>v = .slice none 0 0):=by
 refine af.aG ae Tryz.func44 rfl (by decide) (n:=Tryz.f44.ntmps - 1) rfl rfl fun w0 av=>?_
 conv=>whnf
 repeat (refine aa.of ?_;conv=>whnf)
 refine ar.aj (ak.eP ae (t:=71) rfl rfl ?_)
 conv=>whnf
 repeat (refine aa.of ?_;conv=>whnf)
 exact⟨_,ax.refl _,rfl⟩
theorem tM:af Tryz.prog 45 [.slice none 0 0] (fun _=>True) (fun v F=>v = .slice none 0 0):=by
 refine af.aG ae Tryz.func45 rfl (by decide) (n:=Tryz.f45.ntmps - 1) rfl rfl fun w0 av=>?_
 conv=>whnf
 repeat (refine aa.of ?_;conv=>whnf)
 refine ar.aj (ak.eP ae (t:=122) rfl rfl ?_)
 conv=>whnf
 repeat (refine aa.of ?_;conv=>whnf)
 exact⟨_,ax.refl _,rfl⟩
theorem tS:af Tryz.prog 80 [.slice none 0 0] (fun _=>True) (fun v F=>v = .slice none 0 0):=by
 refine af.aG ae Tryz.func80 rfl (by decide) (n:=Tryz.f80.ntmps - 1) rfl rfl fun w0 av=>?_
 conv=>whnf
 repeat (refine aa.of ?_;conv=>whnf)
 refine ar.aj (ak.eP ae (t:=70) rfl rfl ?_)
 conv=>whnf
 repeat (refine aa.of ?_;conv=>whnf)
 exact⟨_,ax.refl _,rfl⟩
theorem tP:af Tryz.prog 79 [.slice none 0 0] (fun _=>True) (fun v F=>v = .slice none 0 0):=by
 refine af.aG ae Tryz.func79 rfl (by decide) (n:=Tryz.f79.ntmps - 1) rfl rfl fun w0 av=>?_
 conv=>whnf
 repeat (refine aa.of ?_;conv=>whnf)
 refine ar.aj (ak.eP ae (t:=40) rfl rfl ?_)
 conv=>whnf
 repeat (refine aa.of ?_;conv=>whnf)
 exact⟨_,ax.refl _,rfl⟩
theorem gH:af Tryz.prog 30 [.slice none 0 0] (fun _=>True) (fun v F=>v = .slice none 0 0):=by
 refine af.aG ae Tryz.func30 rfl (by decide) (n:=Tryz.f30.ntmps - 1) rfl rfl fun w0 av=>?_
 conv=>whnf
 repeat (refine aa.of ?_;conv=>whnf)
 refine ar.aj (ak.eP ae (t:=22) rfl rfl ?_)
 conv=>whnf
 repeat (refine aa.of ?_;conv=>whnf)
 exact⟨_,ax.refl _,rfl⟩
theorem sH (a:Addr) (n c:Nat) (M:List Value) (hM:M.length=n*6) (hn:n≤1000000):af Tryz.prog 34 [.slice (some a) n c] (fun w=>ai w (some a) M) (fun v F=>∃ k:Hd,k.Ok n∧v=k.v n∧F=⟨fun w=>ai w k.a M,[]⟩):=by
 refine af.aG ae Tryz.func34 rfl (by decide) (n:=Tryz.f34.ntmps - 1) rfl rfl fun w0 av=>?_
 conv=>whnf
 repeat (refine aa.of ?_;conv=>whnf)
 refine ar.aj (ak.eP ae (t:=82) rfl rfl ?_)
 conv=>whnf
 repeat (refine aa.of ?_;conv=>whnf)
 refine ar.build ae (t:=82) rfl rfl rfl [] rfl rfl (by simp) (by decide) fun b0=>?_
 conv=>whnf
 repeat (refine aa.of ?_;conv=>whnf)
 refine ar.bZ (F':=⟨fun w=>ai w (some a) M,[]⟩) (ax.of_le ⟨by simp,fun w hw=>hw⟩) ?_
 refine ar.wS ae rfl rfl rfl rfl rfl rfl (M:=M) (.fact fun w hw=>hw) hM (by omega) (by show(2*n+1000)*48≤2 ^ 48;omega) fun k hk=>?_
 conv=>whnf
 repeat (refine aa.of ?_;conv=>whnf)
 exact⟨⟨fun w=>ai w k.a M,[]⟩,ax.of_le ⟨List.Sublist.refl _,fun w hw=>hw.2⟩,k,hk,rfl,rfl⟩
theorem rK (a:Addr) (n c:Nat) (M:List Value) (hM:M.length=n*3) (hn:n≤1000000):af Tryz.prog 36 [.slice (some a) n c] (fun w=>ai w (some a) M) (fun v F=>∃ k:Hd,k.Ok n∧v=k.v n∧F=⟨fun w=>ai w k.a M,[]⟩):=by
 refine af.aG ae Tryz.func36 rfl (by decide) (n:=Tryz.f36.ntmps - 1) rfl rfl fun w0 av=>?_
 conv=>whnf
 repeat (refine aa.of ?_;conv=>whnf)
 refine ar.aj (ak.eP ae (t:=88) rfl rfl ?_)
 conv=>whnf
 repeat (refine aa.of ?_;conv=>whnf)
 refine ar.build ae (t:=88) rfl rfl rfl [] rfl rfl (by simp) (by decide) fun b0=>?_
 conv=>whnf
 repeat (refine aa.of ?_;conv=>whnf)
 refine ar.bZ (F':=⟨fun w=>ai w (some a) M,[]⟩) (ax.of_le ⟨by simp,fun w hw=>hw⟩) ?_
 refine ar.wS ae rfl rfl rfl rfl rfl rfl (M:=M) (.fact fun w hw=>hw) hM (by omega) (by show(2*n+1000)*24≤2 ^ 48;omega) fun k hk=>?_
 conv=>whnf
 repeat (refine aa.of ?_;conv=>whnf)
 exact⟨⟨fun w=>ai w k.a M,[]⟩,ax.of_le ⟨List.Sublist.refl _,fun w hw=>hw.2⟩,k,hk,rfl,rfl⟩
theorem sN (a:Addr) (n c:Nat) (M:List Value) (hM:M.length=n*1) (hn:n≤1000000):af Tryz.prog 37 [.slice (some a) n c] (fun w=>ai w (some a) M) (fun v F=>∃ k:Hd,k.Ok n∧v=k.v n∧F=⟨fun w=>ai w k.a M,[]⟩):=by
 refine af.aG ae Tryz.func37 rfl (by decide) (n:=Tryz.f37.ntmps - 1) rfl rfl fun w0 av=>?_
 conv=>whnf
 repeat (refine aa.of ?_;conv=>whnf)
 refine ar.aj (ak.eP ae (t:=89) rfl rfl ?_)
 conv=>whnf
 repeat (refine aa.of ?_;conv=>whnf)
 refine ar.build ae (t:=89) rfl rfl rfl [] rfl rfl (by simp) (by decide) fun b0=>?_
 conv=>whnf
 repeat (refine aa.of ?_;conv=>whnf)
 refine ar.bZ (F':=⟨fun w=>ai w (some a) M,[]⟩) (ax.of_le ⟨by simp,fun w hw=>hw⟩) ?_
 refine ar.wS ae rfl rfl rfl rfl rfl rfl (M:=M) (.fact fun w hw=>hw) hM (by omega) (by show(2*n+1000)*8≤2 ^ 48;omega) fun k hk=>?_
 conv=>whnf
 repeat (refine aa.of ?_;conv=>whnf)
 exact⟨⟨fun w=>ai w k.a M,[]⟩,ax.of_le ⟨List.Sublist.refl _,fun w hw=>hw.2⟩,k,hk,rfl,rfl⟩
theorem sR (a:Addr) (n c:Nat) (M:List Value) (hM:M.length=n*1) (hn:n≤1000000):af Tryz.prog 30 [.slice (some a) n c] (fun w=>ai w (some a) M) (fun v F=>∃ k:Hd,k.Ok n∧v=k.v n∧F=⟨fun w=>ai w k.a M,[]⟩):=by
 refine af.aG ae Tryz.func30 rfl (by decide) (n:=Tryz.f30.ntmps - 1) rfl rfl fun w0 av=>?_
 conv=>whnf
 repeat (refine aa.of ?_;conv=>whnf)
 refine ar.aj (ak.eP ae (t:=22) rfl rfl ?_)
 conv=>whnf
 repeat (refine aa.of ?_;conv=>whnf)
 refine ar.build ae (t:=22) rfl rfl rfl [] rfl rfl (by simp) (by decide) fun b0=>?_
 conv=>whnf
 repeat (refine aa.of ?_;conv=>whnf)
 refine ar.bZ (F':=⟨fun w=>ai w (some a) M,[]⟩) (ax.of_le ⟨by simp,fun w hw=>hw⟩) ?_
 refine ar.wS ae rfl rfl rfl rfl rfl rfl (M:=M) (.fact fun w hw=>hw) hM (by omega) (by show(2*n+1000)*1≤2 ^ 48;omega) fun k hk=>?_
 conv=>whnf
 repeat (refine aa.of ?_;conv=>whnf)
 exact⟨⟨fun w=>ai w k.a M,[]⟩,ax.of_le ⟨List.Sublist.refl _,fun w hw=>hw.2⟩,k,hk,rfl,rfl⟩
end Go.Proofs.YtlnhdpjnlffaoaaGreatDoor
