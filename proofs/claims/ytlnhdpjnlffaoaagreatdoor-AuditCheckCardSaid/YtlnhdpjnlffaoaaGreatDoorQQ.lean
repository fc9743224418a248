/- Parts of the proof: AdC, AdK, AdF, AdL, AdM. -/
import Derived.Test.YtlnhdpjnlffaoaaGreatDoorQP
import Derived.Test.YtlnhdpjnlffaoaaGreatDoorZAdD
namespace Go.Proofs.YtlnhdpjnlffaoaaGreatDoor
open Go Go.Proofs Go.RowKit Go.Sx
set_option maxRecDepth 100000
set_option maxHeartbeats 4000000
set_option linter.unusedVariables false
set_option linter.unusedSimpArgs false
def mY:zY:=⟨default,0,0,0,Hd.nil,[],Hd.nil,[],default,default⟩
theorem zk (b m:Nat) (hm0:0<m) (hm:m≤1000):af Tryz.prog 75 [.slice (some ⟨b,0,none⟩) ((128*m:Nat)) ((128*m:Nat))] (fun _=>True)
 (fun v F=>∃ (g c:Nat),m≤c∧v = .slice (some ⟨g,0,none⟩) m c∧F=⟨fun w=>ai w (some ⟨g,0,none⟩) ((List.range m).map (nD b)),[]⟩):=by
 unfold af
 refine⟨⟨_,Tryz.func75,by decide,by decide⟩,fun av w hav _=>(callsIn_wide.1 (CX Fence.wide 5 trivial trivial trivial trivial trivial rfl (by omega) b m hm w)).mono ?_⟩
 rintro e W ⟨v,rfl,⟨hl,h | ⟨g,cap,cur,rfl,hg,hb,hc,hx,hs,hcu⟩⟩,hbel⟩
 · omega
 have hgs:g<W.heap.size:=(Array.getElem?_eq_some_iff.1 hb).1
 refine⟨_,⟨fun w=>ai w (some ⟨g,0,none⟩) ((List.range m).map (nD b)),[]⟩,rfl,⟨hbel.os,hbel.tape,hbel.output,hbel.size,fun k o ho=>?_⟩,⟨fun r hr=>(by cases hr),List.Pairwise.nil,Holds.block g hgs ?_ fun w'' hw=>?_⟩,g,cap,hc,rfl,rfl⟩
 · have hk:k<w.heap.size:=(Array.getElem?_eq_some_iff.1 ho).1
   exact⟨o,by rw[hbel.block k hk,ho],.refl _ _⟩
 · rintro(hq | ⟨r,hr,_⟩)
   · have:=hav _ hq
     omega
   · cases hr
 · refine .inr ⟨rfl,cur,_,_,by rw[hw,hb],fun j hj=>?_⟩
   rw[← hcu]
   simp only[List.length_map,List.length_range] at hj
   show cur[0+j]? = _
   rw[Nat.zero_add,List.getElem?_take,if_pos (by omega)]
   simp
noncomputable def jQ:Code:=Tryz.f26.body.getD .skip
theorem nS:af Tryz.prog 26 [.slice none 0 0] (fun _=>True) (fun v F=>v = .tuple ⟨[.agg ⟨iz default⟩,.int .i64 0]⟩):=by
 refine af.iL ae Tryz.func26 (c:=jQ) rfl (by decide) (n:=Tryz.f26.ntmps - 1) rfl fun w0 av=>?_
 show az Tryz.prog w0 (fun _ _=>False) av jQ _ [] [] _ (lz aY Tryz.f26.results.toList (eg (fun v F=>v = .tuple ⟨[.agg ⟨iz default⟩,.int .i64 0]⟩)))
 refine az.cr ae 3 (ι:=Nat) (fun _=>True) (fun b=>[.any,.any,.v (.pointer (some ⟨b,0,none⟩)),.v (.int .i64 0)]++List.replicate 7 .any) (fun _=>[]) (fun b=>⟨fun _=>True,[] ++ [(b,Row.c (iz default))] ++ []⟩) ?_ ?_
 · conv=>whnf
   repeat (refine aa.of ?_;conv=>whnf)
   refine ar.cT ae rfl (z:=iz default) (by kernel_rfl) fun b=>?_
   conv=>whnf
   repeat (refine aa.of ?_;conv=>whnf)
   refine bF.no (by simp[aB]) ?_
   conv=>whnf
   repeat (refine aa.of ?_;conv=>whnf)
   refine aw.val gH (fun w hw=>trivial) (fun v D hv=>?_)
   subst hv
   conv=>whnf
   repeat (refine aa.of ?_;conv=>whnf)
   refine ar.aj (ak.fo ae rfl rfl ?_)
   conv=>whnf
   repeat (refine aa.of ?_;conv=>whnf)
   refine aP.bZ (F':=⟨fun _=>True,[] ++ [(b,Row.c (iz default))] ++ []⟩) (ax.of_le ⟨by simp[Fx.and],fun w hw=>trivial⟩) ?_
   refine aP.aX ae rfl (b:=b) (k:=0) (X:=iz default) rfl rfl (List.all_eq_true.1 (by rfl)) (Nat.le_refl _) (bP rfl) ?_
   conv=>whnf
   repeat (refine aa.of ?_;conv=>whnf)
   refine⟨b,trivial,[],⟨by decide,by simp,rfl⟩,?_,ax.refl _⟩
   repeat (first | exact au.nil | refine au.any ?_ | refine au.cons ?_)
 · intro b _ bs' hbs'
   obtain rfl:=List.eq_nil_of_length_eq_zero hbs'
   refine az.sw (j:=2) rfl ?_
   refine az.aG ae ?_
   conv=>whnf
   exact⟨_,ax.refl _,rfl⟩
noncomputable def mr:Code:=Tryz.f27.body.getD .skip
theorem rZ:af Tryz.prog 27 [.slice none 0 0] (fun _=>True) (fun v F=>v = .tuple ⟨[.agg ⟨gp mY⟩,.int .i64 0]⟩):=by
 refine af.iL ae Tryz.func27 (c:=mr) rfl (by decide) (n:=Tryz.f27.ntmps - 1) rfl fun w0 av=>?_
 show az Tryz.prog w0 (fun _ _=>False) av mr _ [] [] _ (lz aY Tryz.f27.results.toList (eg (fun v F=>v = .tuple ⟨[.agg ⟨gp mY⟩,.int .i64 0]⟩)))
 refine az.cr ae 3 (ι:=Nat) (fun _=>True) (fun b=>[.any,.any,.v (.pointer (some ⟨b,0,none⟩)),.v (.int .i64 0)]++List.replicate 7 .any) (fun _=>[]) (fun b=>⟨fun _=>True,[] ++ [(b,Row.c (gp mY))] ++ []⟩) ?_ ?_
 · conv=>whnf
   repeat (refine aa.of ?_;conv=>whnf)
   refine ar.cT ae rfl (z:=gp mY) (by kernel_rfl) fun b=>?_
   conv=>whnf
   repeat (refine aa.of ?_;conv=>whnf)
   refine bF.no (by simp[aB]) ?_
   conv=>whnf
   repeat (refine aa.of ?_;conv=>whnf)
   refine aw.val gH (fun w hw=>trivial) (fun v D hv=>?_)
   subst hv
   conv=>whnf
   repeat (refine aa.of ?_;conv=>whnf)
   refine ar.aj (ak.fo ae rfl rfl ?_)
   conv=>whnf
   repeat (refine aa.of ?_;conv=>whnf)
   refine aP.bZ (F':=⟨fun _=>True,[] ++ [(b,Row.c (gp mY))] ++ []⟩) (ax.of_le ⟨by simp[Fx.and],fun w hw=>trivial⟩) ?_
   refine aP.aX ae rfl (b:=b) (k:=0) (X:=gp mY) rfl rfl (List.all_eq_true.1 (by rfl)) (Nat.le_refl _) (bP rfl) ?_
   conv=>whnf
   repeat (refine aa.of ?_;conv=>whnf)
   refine⟨b,trivial,[],⟨by decide,by simp,rfl⟩,?_,ax.refl _⟩
   repeat (first | exact au.nil | refine au.any ?_ | refine au.cons ?_)
 · intro b _ bs' hbs'
   obtain rfl:=List.eq_nil_of_length_eq_zero hbs'
   refine az.sw (j:=2) rfl ?_
   refine az.aG ae ?_
   conv=>whnf
   exact⟨_,ax.refl _,rfl⟩
def ir (n:Nat) (l:List Bs):Prop:=l.length=n∧∀ x∈l,x.n=128∧x.h.a≠none∧128≤x.h.c
def mN (a:Addr) (l:List Bs) (w:World):Prop:=ai w (some a) (l.map du)∧∀ x∈l,ai w x.h.a (List.replicate 128 (ea 0))
def BG (n:Nat) (v:Value) (F:Fx):Prop:=∃ (a:Addr) (c:Nat) (l:List Bs),n≤c∧ir n l∧v = .slice (some a) l.length c∧F=⟨mN a l,[]⟩
theorem yd {w:World} {b n o m:Nat} {z:Value} (h:ai w (some ⟨b,0,none⟩) (List.replicate n z)) (hm:0<m) (hle:o+m≤n):ai w (some ⟨b,o,none⟩) (List.replicate m z):=by
 have hne:List.replicate n z≠[]:=by
  intro e
  have:=congrArg List.length e
  simp at this
  omega
 obtain⟨-,arr,e,fz,hb,hj⟩:=h.there hne
 refine .inr ⟨rfl,arr,e,fz,hb,fun j hjl=>?_⟩
 simp only[List.length_replicate] at hjl hj
 have:=hj (o+j) (by omega)
 rw[Nat.zero_add] at this
 show arr[o+j]? = _
 rw[this,List.getElem?_replicate,List.getElem?_replicate,if_pos (by omega),if_pos hjl]
def parts (b m:Nat):List Bs:=(List.range m).map fun i=>⟨⟨some ⟨b,128*i,none⟩,128⟩,128⟩
theorem kF (b m:Nat):ir m (parts b m):=by
 refine⟨by simp[parts],fun x hx=>?_⟩
 unfold parts at hx
 obtain⟨i,-,rfl⟩:=List.mem_map.1 hx
 exact⟨rfl,by simp,Nat.le_refl _⟩
theorem wT (b m:Nat):(parts b m).map du=(List.range m).map (nD b):=by
 unfold parts
 rw[List.map_map]
 rfl
theorem tD {w:World} {b m:Nat} (h:ai w (some ⟨b,0,none⟩) (List.replicate (128*m) (ea 0))) : ∀ x∈parts b m,ai w x.h.a (List.replicate 128 (ea 0)):=by
 intro x hx
 unfold parts at hx
 obtain⟨i,hi,rfl⟩:=List.mem_map.1 hx
 have:=List.mem_range.1 hi
 exact yd h (by decide) (by omega)
theorem zM (C:List Value):laid C 0 []=C:=by simp[laid]
theorem pf (n:Nat) (v:Value):(List.replicate n [v]).flatten=List.replicate n v:=by
 induction n with
 | zero=>rfl
 | succ n ih=>rw[List.replicate_succ,List.flatten_cons,ih,List.replicate_succ];rfl
theorem sM:af Tryz.prog 25 [.slice none 0 0] (fun _=>True) (fun v F=>∃ x,BG 160 x F∧v = .tuple ⟨[.agg ⟨x::cE default⟩,.int .i64 0]⟩):=by
 obtain⟨n,hn⟩ : ∃ n:Nat,n=20480:=⟨_,rfl⟩
 have hn0:(20480:Int)=(n:Int):=by omega
 refine af.aG ae Tryz.func25 rfl (by decide) (n:=Tryz.f25.ntmps - 1) rfl rfl fun w0 av=>?_
 refine nH ?_
 conv=>whnf
 intro b2
 conv=>whnf
 repeat (refine aa.of ?_;conv=>whnf)
 refine ar.nN ae rfl rfl rfl n hn0 hn0 (by omega) (by decide) rfl (by omega) (by show 1*n≤_;omega) fun b4=>?_
 conv=>whnf
 repeat (refine aa.of ?_;conv=>whnf)
 refine bF.no (by simp[aB]) ?_
 conv=>whnf
 repeat (refine aa.of ?_;conv=>whnf)
 refine ar.bZ (F':=⟨fun _=>True,[] ++ [(b4,Row.c (List.replicate n [Value.int .u8 0]).flatten)] ++ []⟩) (ax.of_le ⟨by simp[Fx.and],fun w hw=>trivial⟩) ?_
 refine ar.B5 ae rfl rfl rfl (M:=[]) rfl (fun w _=>rfl) rfl (by simp) (by simp) ?_
 conv=>whnf
 repeat (refine aa.of ?_;conv=>whnf)
 have hcut:=zk b4 160 (by decide) (by decide)
 rw[show 128*160=n from by omega] at hcut
 refine aw.pure hcut (fun w hw=>trivial) (fun v D hv=>?_)
 obtain⟨g,c,hgc,rfl,rfl⟩:=hv
 conv=>whnf
 repeat (refine aa.of ?_;conv=>whnf)
 refine⟨⟨mN ⟨g,0,none⟩ (parts b4 160),[]⟩,ax.trans ax.jc (ax.imp fun w hw=>?_),_,⟨⟨g,0,none⟩,c,parts b4 160,hgc,kF _ _,by rw[(kF b4 160).1],rfl⟩,rfl⟩
 obtain⟨⟨-,hg⟩,hr⟩:=hw
 have hb:ai w (some ⟨b4,0,none⟩) (List.replicate n (ea 0)):=by
  have h:=hr.1
  rw[List.take_nil,zM,pf] at h
  exact h
 exact⟨by rw[wT];exact hg,tD (by rw[show 128*160=n from by omega];exact hb)⟩
theorem vv (b i:Nat) (hi:i<96):laid ((List.range i).map (nD b)++List.replicate (96 - i) (.slice none 0 0)) i [nD b i]=(List.range (i+1)).map (nD b)++List.replicate (96 - (i+1)) (.slice none 0 0):=by
 unfold laid
 rw[List.take_left' (by simp),List.range_succ,List.map_append,show 96 - i=(96 - (i+1))+1 by omega,List.replicate_succ,List.drop_append]
 simp
theorem od:af Tryz.prog 29 [] (fun _=>True) (fun v F=>∃ x,BG 96 x F∧v = .agg ⟨[x]⟩):=by
 obtain⟨n,hn⟩ : ∃ n:Nat,n=12288:=⟨_,rfl⟩
 have hn0:(12288:Int)=(n:Int):=by omega
 obtain⟨m,hm⟩ : ∃ m:Nat,m=96:=⟨_,rfl⟩
 have hm0:(96:Int)=(m:Int):=by omega
 refine af.aG ae Tryz.func29 rfl (by decide) (n:=Tryz.f29.ntmps - 0) rfl rfl fun w0 av=>?_
 refine nH ?_
 refine rh (ti:=(Sx.look aY 90).get rfl) rfl rfl ?_
 conv=>whnf
 repeat (refine aa.of ?_;conv=>whnf)
 intro b0
 conv=>whnf
 repeat (refine aa.of ?_;conv=>whnf)
 refine ar.nN ae rfl rfl rfl n hn0 hn0 (by omega) (by decide) rfl (by omega) (by show 1*n≤_;omega) fun b1=>?_
 conv=>whnf
 repeat (refine aa.of ?_;conv=>whnf)
 refine ar.nN ae rfl rfl rfl m hm0 hm0 (by omega) (by decide) rfl (by omega) (by show 24*m≤_;omega) fun b2=>?_
 conv=>whnf
 repeat (refine aa.of ?_;conv=>whnf)
 intro b3
 conv=>whnf
 repeat (refine aa.of ?_;conv=>whnf)
 have h0:(List.replicate m [Value.slice none 0 0]).flatten=(List.range 0).map (nD b1)++List.replicate (96 - 0) (.slice none 0 0):=by
  rw[pf,hm]
  rfl
 refine az.loop ae (ι:=Nat) ([3,10]++List.range' 11 17) (fun x=>x≤96)
  (fun x=>[(10,.v (.int .i64 (x:Int)))]) (fun _=>[[.slice none 0 0],[.slice (some ⟨b2,0,none⟩) m m]]) (fun x=>⟨fun _=>True,[(b1,Row.c (List.replicate n [Value.int .u8 0]).flatten),(b2,Row.c ((List.range x).map (nD b1)++List.replicate (96 - x) (.slice none 0 0)))]⟩)
  (fun x=>96 - x) 0 (Nat.zero_le _) ?_ rfl (ax.of_le ⟨by rw[← h0];exact List.Sublist.refl _,fun w hw=>trivial⟩) fun i hi=>?_
 · conv=>whnf
   repeat (first | exact au.nil | refine au.any ?_ | refine au.cons ?_)
 conv=>whnf
 repeat (refine aa.of ?_;conv=>whnf)
 refine bF.split (fun hlt=>?_) (fun hlt=>?_)
 · have hlt':i<96:=by
    simp only[ao,decide_eq_true_eq] at hlt
    omega
   have hw1:IntKind.i64.wrap ((i:Int)*128)=((128*i:Nat):Int):=by rw[wrap_i64 (by omega)];omega
   have hw2:IntKind.i64.wrap (IntKind.i64.wrap ((i:Int)+1)*128)=((128*i+128:Nat):Int):=by rw[wrap_i64 (n:=(i:Int)+1) (by omega),wrap_i64 (by omega)];omega
   have haddr:(⟨b2,0,none⟩:Addr).add ((i:Int).toNat*1)=⟨b2,i,none⟩:=by simp[Addr.add];omega
   have hcv:Value.slice (jM (some ⟨b1,0,none⟩) (128*i) (128*i+128) 1) (128*i+128 - 128*i) (128*i+128 - 128*i)=nD b1 i:=by
    unfold jM
    rw[if_neg (by omega),Nat.add_sub_cancel_left,Nat.mul_one,Option.map_some]
    simp[Addr.add]
    omega
   conv=>whnf
   repeat (refine aa.of ?_;conv=>whnf)
   refine az.draw ae mixed rfl rfl ?_
   conv=>whnf
   repeat' (first
    | (refine ak.slice ae (t:=22) rfl rfl rfl (lo:=some _) (hi:=some _) (mx:=some _) (128*i) (128*i+128) (128*i+128) hw1 hw2 hw2 (by omega) (by omega) (by omega) (fun _=>rfl) ?_;conv=>whnf)
    | (refine ak.index ae (t:=40) rfl rfl rfl (by omega) (by omega) (fun h=>by cases h) fun ad had=>?_;conv=>whnf)
    | ((cases had;refine aP.aX ae rfl (b:=b2) (k:=i) (r1:=[(b1,Row.c (List.replicate n [Value.int .u8 0]).flatten)]) (r2:=[]) (X:=(List.range (i+1)).map (nD b1)++List.replicate (96 - (i+1)) (.slice none 0 0)) haddr rfl (List.all_eq_true.1 (by rfl)) (by show i+1≤_;rw[List.length_append,List.length_map,List.length_range,List.length_replicate];omega) (by show laid _ i [Value.slice (jM (some ⟨b1,0,none⟩) (128*i) (128*i+128) 1) (128*i+128 - 128*i) (128*i+128 - 128*i)]=_;rw[hcv];exact vv b1 i hlt') ?_);conv=>whnf))
   refine⟨i+1,⟨hlt',by dsimp only;omega⟩,?_,?_,ax.of_le ⟨by simp,fun w hw=>trivial⟩⟩
   · conv=>whnf
     refine⟨?_,rfl⟩
     repeat (first | exact au.nil | refine au.any ?_ | refine au.cons ?_ | refine au.eq (by rw[wrap_i64 (by omega)];rfl) ?_)
   · conv=>whnf
     exact⟨⟨rfl,rfl⟩,⟨rfl,rfl⟩,trivial⟩
 · have hie:i=96:=by
    simp[ao] at hlt
    omega
   subst hie
   conv=>whnf
   repeat (refine aa.of ?_;conv=>whnf)
   rw[hm]
   refine⟨⟨mN ⟨b2,0,none⟩ (parts b1 96),[]⟩,ax.trans ax.jc (ax.imp fun w hw=>?_),_,⟨⟨b2,0,none⟩,96,parts b1 96,by omega,kF _ _,by rw[(kF b1 96).1],rfl⟩,rfl⟩
   obtain⟨-,h1,h2,-⟩:=hw
   rw[pf] at h1
   refine⟨?_,tD (by rw[show 128*96=n from by omega];exact h1)⟩
   rw[wT]
   have:(List.range 96).map (nD b1)++List.replicate (96 - 96) (Value.slice none 0 0)=(List.range 96).map (nD b1):=by rw[Nat.sub_self,List.replicate_zero,List.append_nil]
   rw[this] at h2
   exact h2
open Go Go.Sx
theorem cP {C:List Value} {k:Nat} {v:Value} (h:C[k]? = some v):laid C k [v]=C:=by
 unfold laid
 obtain⟨hk,hv⟩:=List.getElem?_eq_some_iff.1 h
 rw[List.length_singleton,List.append_assoc,List.singleton_append]
 rw[← hv,← List.drop_eq_getElem_cons hk,List.take_append_drop]
theorem ie {C:List Value} {k:Nat} {v:Value} (h:k<C.length) (j:Nat):(laid C k [v])[j]? = if j=k then some v else C[j]?:=by
 unfold laid
 rw[List.length_singleton,List.append_assoc,List.singleton_append]
 by_cases h1:j<k
 · rw[List.getElem?_append_left (by rw[List.length_take];omega),List.getElem?_take,if_pos h1,if_neg (by omega)]
 · rw[List.getElem?_append_right (by rw[List.length_take];omega),List.length_take,show min k C.length=k by omega]
   by_cases h2:j=k
   · subst h2
     rw[Nat.sub_self,if_pos rfl]
     rfl
   · rw[if_neg h2,show j - k=(j - (k+1))+1 by omega,List.getElem?_cons_succ,List.getElem?_drop]
     congr 1
     omega
theorem qd:af Tryz.prog 39 [.slice none 0 0] (fun _=>True) (fun v F=>v = .slice none 0 0):=by
 refine af.aG ae Tryz.func39 rfl (by decide) (n:=Tryz.f39.ntmps - 1) rfl rfl fun w0 av=>?_
 conv=>whnf
 repeat (refine aa.of ?_;conv=>whnf)
 refine aw.val tP (fun w hw=>trivial) (fun v D hv=>?_)
 subst hv
 conv=>whnf
 repeat (refine aa.of ?_;conv=>whnf)
 refine az.loop ae (ι:=Unit) ([4,9]++List.range' 10 12) (fun _=>True) (fun _=>[(9,.v (.int .i64 0))]) (fun _=>[]) (fun _=>⟨fun _=>True,[]⟩) (fun _=>0) () trivial ?_ rfl (ax.of_le ⟨by simp,fun w hw=>trivial⟩) fun _ _=>?_
 · conv=>whnf
   repeat (first | exact au.nil | refine au.any ?_ | refine au.cons ?_)
 conv=>whnf
 repeat (refine aa.of ?_;conv=>whnf)
 refine bF.no (by simp[ao]) ?_
 conv=>whnf
 repeat (refine aa.of ?_;conv=>whnf)
 exact⟨_,ax.refl _,rfl⟩
theorem mP:af Tryz.prog 43 [.slice none 0 0] (fun _=>True) (fun v F=>v = .slice none 0 0):=by
 refine af.aG ae Tryz.func43 rfl (by decide) (n:=Tryz.f43.ntmps - 1) rfl rfl fun w0 av=>?_
 conv=>whnf
 repeat (refine aa.of ?_;conv=>whnf)
 refine aw.val tS (fun w hw=>trivial) (fun v D hv=>?_)
 subst hv
 conv=>whnf
 repeat (refine aa.of ?_;conv=>whnf)
 refine az.loop ae (ι:=Unit) ([4,9]++List.range' 10 14) (fun _=>True) (fun _=>[(9,.v (.int .i64 0))]) (fun _=>[]) (fun _=>⟨fun _=>True,[]⟩) (fun _=>0) () trivial ?_ rfl (ax.of_le ⟨by simp,fun w hw=>trivial⟩) fun _ _=>?_
 · conv=>whnf
   repeat (first | exact au.nil | refine au.any ?_ | refine au.cons ?_)
 conv=>whnf
 repeat (refine aa.of ?_;conv=>whnf)
 refine bF.no (by simp[ao]) ?_
 conv=>whnf
 repeat (refine aa.of ?_;conv=>whnf)
 exact⟨_,ax.refl _,rfl⟩
theorem qK (a:Addr) (n c:Nat) (M:List Value) (hM:M.length=n*1) (hn0:0<n) (hn:n≤1000000):af Tryz.prog 79 [.slice (some a) n c] (fun w=>ai w (some a) M)
 (fun v F=>∃ b cap C,Sx.cZ 1 n (some ⟨b,0,none⟩) cap C M∧v = .slice (some ⟨b,0,none⟩) n cap∧F=⟨fun _=>True,[(b,Row.c C)]⟩):=by
 refine af.aG ae Tryz.func79 rfl (by decide) (n:=Tryz.f79.ntmps - 1) rfl rfl fun w0 av=>?_
 conv=>whnf
 repeat (refine aa.of ?_;conv=>whnf)
 refine ar.aj (ak.eP ae (t:=40) rfl rfl ?_)
 conv=>whnf
 repeat (refine aa.of ?_;conv=>whnf)
 refine ar.build ae (t:=40) rfl rfl rfl [] rfl rfl (by simp) (by decide) fun b0=>?_
 conv=>whnf
 repeat (refine aa.of ?_;conv=>whnf)
 refine ar.bZ (F':=⟨fun w=>ai w (some a) M,[]⟩) (ax.of_le ⟨by simp,fun w hw=>hw⟩) ?_
 refine ar.lG ae rfl rfl rfl rfl rfl rfl (L:=[]) (M:=M) (fun w _=>ai.w_ _) (by simp) (.fact fun w hw=>hw) hM (by omega) (by omega) (by show(2*(0+n)+1000)*24≤2 ^ 48;omega) fun b cap C hO=>?_
 conv=>whnf
 repeat (refine aa.of ?_;conv=>whnf)
 rw[Nat.zero_add,List.nil_append] at hO
 rw[Nat.zero_add]
 exact⟨⟨fun _=>True,[(b,Row.c C)]⟩,ax.of_le ⟨by simp,fun w hw=>trivial⟩,b,cap,C,hO,rfl,rfl⟩
theorem pQ (a:Addr) (c n:Nat) (l:List Bs) (hn0:0<n) (hn:n≤1000) (hZ:ir n l) (hc:n≤c):af Tryz.prog 39 [.slice (some a) l.length c] (mN a l)
 (fun v F=>∃ (a':Addr) (c':Nat) (l':List Bs),n≤c'∧ir n l'∧v = .slice (some a') l'.length c'∧F=⟨fun w=>ai w (some a') (l'.map du),[]⟩):=by
 obtain⟨hn',hall⟩:=hZ
 have hM:(l.map du).length=n*1:=by rw[List.length_map,hn',Nat.mul_one]
 rw[hn']
 refine af.aG ae Tryz.func39 rfl (by decide) (n:=Tryz.f39.ntmps - 1) rfl rfl fun w0 av=>?_
 conv=>whnf
 repeat (refine aa.of ?_;conv=>whnf)
 refine aw.pure (qK a n c (l.map du) hM hn0 (by omega)) (fun w hw=>hw.1) (fun v D hv=>?_)
 obtain⟨b,cap,C,hO,rfl,rfl⟩:=hv
 have hCl:C.length=cap:=by
  rcases hO.alt with⟨h,-⟩ | ⟨b',-,h,-⟩
  · cases h
  · rw[h,Nat.mul_one]
 have hCt:C.take n=l.map du:=by
  rcases hO.alt with⟨h,-⟩ | ⟨b',-,-,h⟩
  · cases h
  · rw[Nat.mul_one] at h
    exact h
 have hfit:n≤cap:=hO.fit
 have hC0 : ∀ j (hj:j<n),C[j]? = some (du l[j]!):=fun j hj=>by
  have:=congrArg (fun r=>r[j]?) hCt
  simp only[List.getElem?_take,if_pos hj,List.getElem?_map] at this
  rw[this]
  simp[hn',hj]
 conv=>whnf
 repeat (refine aa.of ?_;conv=>whnf)
 refine az.loop ae (ι:=Nat×(Nat→Bs)×List Value) ([4,9]++List.range' 10 12) (fun x=>x.1≤n∧x.2.2.length=cap∧(∀ j,j<n→x.2.2[j]? = some (du (x.2.1 j)))∧(∀ j,x.1≤j→x.2.1 j=l[j]!)∧∀ j,j<x.1→(x.2.1 j).n=128∧(x.2.1 j).h.a≠none∧128≤(x.2.1 j).h.c)
  (fun x=>[(9,.v (.int .i64 (x.1:Int)))]) (fun _=>[]) (fun x=>⟨mN a l,[] ++ [(b,Row.c x.2.2)] ++ []⟩)
  (fun x=>n - x.1) (0,fun j=>l[j]!,C) ⟨Nat.zero_le _,hCl,hC0,fun j _=>rfl,fun j hj=>by dsimp only at hj;omega⟩ ?_ rfl (ax.of_le ⟨by simp[Fx.and],fun w hw=>hw.1⟩) fun x hx=>?_
 · conv=>whnf
   repeat (first | exact au.nil | refine au.any ?_ | refine au.cons ?_)
 obtain⟨i,f,Y⟩:=x
 obtain⟨hi,hYl,hY,hold,hnew⟩:=hx
 dsimp only at hi hYl hY hold hnew ⊢
 conv=>whnf
 repeat (refine aa.of ?_;conv=>whnf)
 refine bF.split (fun hlt=>?_) (fun hlt=>?_)
 · have hlt':i<n:=by
    simp[ao] at hlt
    omega
   have hmem:l[i]!∈l:=by
    have:l[i]! = l[i]:=by simp[hn',hlt']
    rw[this]
    exact List.getElem_mem _
   obtain⟨h1,h2,h3⟩:=hall _ hmem
   have hYi:=hY i hlt'
   rw[hold i (Nat.le_refl _)] at hYi
   obtain⟨y,hy⟩ : ∃ y,l[i]! = y:=⟨_,rfl⟩
   rw[hy] at hmem h1 h2 h3 hYi
   obtain⟨⟨_ | ay,cy⟩,ny⟩:=y
   · exact absurd rfl h2
   dsimp only at h1 h3
   subst h1
   conv=>whnf
   repeat (refine aa.of ?_;conv=>whnf)
   refine ar.aj (ak.index ae rfl rfl rfl (by omega) (by omega) (fun h=>by cases h) fun ad had=>?_)
   conv=>whnf
   repeat (refine aa.of ?_;conv=>whnf)
   refine ar.aj (ak.aH ae rfl rfl (ad:=ad) (k:=i) (L:=Y) (v:=.slice (some ay) 128 cy) (had ▸ aK.row (by simp)) (fun _=>by simp) hYi ?_)
   conv=>whnf
   repeat (refine aa.of ?_;conv=>whnf)
   refine aw.pure (sR ay 128 cy (List.replicate 128 (ea 0)) (by simp) (by decide)) (fun w hw=>hw.2 _ hmem) (fun v D hv=>?_)
   obtain⟨k,hk,rfl,rfl⟩:=hv
   have hka:k.a≠none:=fun h=>absurd (hk.nil h) (by decide)
   conv=>whnf
   repeat (refine aa.of ?_;conv=>whnf)
   refine ar.aj (ak.index ae rfl rfl rfl (by omega) (by omega) (fun h=>by cases h) fun ad' had'=>?_)
   cases had'
   conv=>whnf
   repeat (refine aa.of ?_;conv=>whnf)
   refine aP.bZ (F':=⟨mN a l,[] ++ [(b,Row.c Y)] ++ []⟩) (ax.of_le ⟨by simp[Fx.and],fun w hw=>hw.1⟩) ?_
   refine aP.aX ae rfl (b:=b) (k:=i) (X:=laid Y i [k.v 128]) (by simp[Addr.add];omega) rfl (List.all_eq_true.1 (by rfl)) (by rw[hYl];show i+1≤cap;omega) rfl ?_
   conv=>whnf
   repeat (refine aa.of ?_;conv=>whnf)
   refine⟨(i+1,(fun j=>if j=i then ⟨k,128⟩ else f j),laid Y i [k.v 128]),⟨⟨hlt',?_,?_,?_,?_⟩,by dsimp only;omega⟩,?_,?_,ax.refl _⟩
   · dsimp only
     rw[kB (by rw[hYl];show i+1≤cap;omega)]
     exact hYl
   · intro j hj
     dsimp only
     rw[ie (by omega)]
     by_cases h:j=i
     · rw[if_pos h,if_pos h]
       rfl
     · rw[if_neg h,if_neg h]
       exact hY j hj
   · intro j hj
     dsimp only at hj ⊢
     rw[if_neg (by omega)]
     exact hold j (by omega)
   · intro j hj
     dsimp only at hj ⊢
     by_cases h:j=i
     · rw[if_pos h]
       exact⟨rfl,hka,hk.cap⟩
     · rw[if_neg h]
       exact hnew j (by omega)
   · conv=>whnf
     refine⟨?_,rfl⟩
     repeat (first | exact au.nil | refine au.any ?_ | refine au.cons ?_ | refine au.eq (by rw[wrap_i64 (by omega)];rfl) ?_)
   · conv=>whnf
     exact trivial
 · have hie:i=n:=by
    simp[ao] at hlt
    omega
   subst hie
   conv=>whnf
   repeat (refine aa.of ?_;conv=>whnf)
   have hlen:((List.range i).map f).length=i:=by simp
   refine⟨_,ax.trans (ax.share1 (rs:=[])) (ax.imp (D':=fun w=>ai w (some ⟨b,0,none⟩) (((List.range i).map f).map du)) fun w hw=>?_),⟨b,0,none⟩,cap,(List.range i).map f,hfit,⟨hlen,fun x hx=>?_⟩,by rw[hlen],rfl⟩
   · have hr:=hw.2
     have hne:Y≠[]:=by
      intro e
      rw[e] at hYl
      simp at hYl
      omega
     obtain⟨h1,arr,e,fz,h2,h3⟩:=hr.there hne
     refine .inr ⟨h1,arr,e,fz,h2,fun j hj=>?_⟩
     simp only[List.length_map,List.length_range] at hj
     rw[h3 j (by omega),hY j hj]
     simp[hj]
   · obtain⟨j,hj,rfl⟩:=List.mem_map.1 hx
     exact hnew j (List.mem_range.1 hj)
structure Bt where
 nx:Int
 cp:Sl Cp
 ti:Sl Ti
 pg:Sl Bs
 bk:Sl Bs
def Bt.pR (x:Bt) (T:Nat→gU) (qu:Sl Int):bW:=⟨T,fun _=>false,default,default,x.nx,x.cp,default,x.ti,qu,x.pg,fun _=>default,default,x.bk,default,⟨0,0,false,false⟩,mY,default,0,default,fun _=>false,default,default,default,default⟩
def Dx (k:Int):gU:=⟨k,0,0,false,false,false,0,default⟩
def qb:List Ti:=[⟨1,1,64⟩]
def Bt.At (x:Bt) (w:World):Prop:=x.cp.At bx w∧x.ti.At cu w∧(x.pg.As du w∧∀ y∈x.pg.l,ai w y.h.a (List.replicate 128 (ea 0)))∧(x.bk.As du w∧∀ y∈x.bk.l,ai w y.h.a (List.replicate 128 (ea 0)))
structure Bt.Ok (x:Bt):Prop where
 cp:x.cp.h.Ok x.cp.l.length
 ti:x.ti.h.Ok x.ti.l.length
 pgh:x.pg.h.Ok x.pg.l.length
 bkh:x.bk.h.Ok x.bk.l.length
 pg:ir 96 x.pg.l
 bk:ir 160 x.bk.l
def jL (k:Nat):Nat→gU:=fun i=>if 1≤i∧i≤k then Dx 1 else default
def dE:Nat→gU:=fun i=>if i=16 then Dx 2 else jL 10 i
def oX (k:Nat):List Int:=(List.range k).map fun i=>((i+1:Nat):Int)
def B1 (nx:Int) (cl:List Cp) (v:Value) (F:Fx):Prop:=∃ (x:Bt) (hq:Hd) (bk bs:Nat),x.nx=nx∧x.cp.l=cl∧x.ti.l=qb∧x.Ok∧hq.Ok 11∧v = .pointer (some ⟨bk,0,none⟩)∧
 F=⟨fun w=>((x.At w∧ai w hq.a ((oX 10 ++ [16]).map bH))∧ai w (some ⟨bs,0,none⟩) (aT (x.pR dE ⟨hq,oX 10 ++ [16]⟩)))∧ai w (some ⟨bk,0,none⟩) [.pointer (some ⟨bs,0,none⟩)],[]⟩
theorem yU (s:bW) (n:Int) : ∀ i,i<17→laid (aT s) (i*8) [.int .i64 n]=aT { s with T:=j9 s.T i { s.T i with kind:=n } }
 | 0,_=>by kernel_rfl
 | 1,_=>by kernel_rfl
 | 2,_=>by kernel_rfl
 | 3,_=>by kernel_rfl
 | 4,_=>by kernel_rfl
 | 5,_=>by kernel_rfl
 | 6,_=>by kernel_rfl
 | 7,_=>by kernel_rfl
 | 8,_=>by kernel_rfl
 | 9,_=>by kernel_rfl
 | 10,_=>by kernel_rfl
 | 11,_=>by kernel_rfl
 | 12,_=>by kernel_rfl
 | 13,_=>by kernel_rfl
 | 14,_=>by kernel_rfl
 | 15,_=>by kernel_rfl
 | 16,_=>by kernel_rfl
 | i+17,h=>absurd h (by omega)
theorem Cu (s:bW) (q:Sl Int):laid (aT s) 273 [q.v]=aT { s with qu:=q }:=by kernel_rfl
theorem sY (s:bW) {l:List Int} {n:Nat} (hl:l.length=n) {a:Option Addr} {c:Nat}:laid (aT s) 273 [.slice a n c]=aT { s with qu:=⟨⟨a,c⟩,l⟩ }:=by
 subst hl
 exact Cu s ⟨⟨a,c⟩,l⟩
theorem yu (s:bW):(aT s)[273]? = some s.qu.v:=by kernel_rfl
theorem xK {k:Nat} (hk:k<10):j9 (jL k) (k+1) { jL k (k+1) with kind:=1 }=jL (k+1):=by
 funext i
 unfold j9 jL
 by_cases h:i=k+1
 · subst h
   rw[if_pos rfl,if_neg (by omega),if_pos (by omega)]
   rfl
 · rw[if_neg h]
   by_cases h2:1≤i∧i≤k
   · rw[if_pos h2,if_pos (by omega)]
   · rw[if_neg h2,if_neg (by omega)]
theorem zJ:j9 (jL 10) 16 { jL 10 16 with kind:=2 }=dE:=by
 funext i
 unfold j9 dE
 by_cases h:i=16
 · subst h
   rw[if_pos rfl,if_pos rfl]
   rfl
 · rw[if_neg h,if_neg h]
theorem zO (k:Nat):oX (k+1)=oX k ++ [((k+1:Nat):Int)]:=by
 unfold oX
 rw[List.range_succ,List.map_append]
 rfl
theorem w6 (k:Nat):(oX k).length=k:=by simp[oX]
theorem za (nx:Int) (cl:List Cp) (hcl:cl.length≤1000)
 (hB:af Tryz.prog 28 [] (fun _=>True) (fun v F=>∃ h:Hd,h.Ok cl.length∧v = .agg ⟨[.int .i64 nx,h.v cl.length]⟩∧F=⟨fun w=>ai w h.a (cl.flatMap bx),[]⟩)) :
 af Tryz.prog 14 [.slice none 0 0,.slice none 0 0,.slice none 0 0] (fun _=>True) (B1 nx cl):=by
 have h1:=sM
 have h2:=nS
 have h3:=rZ
 have h4:=od
 refine af.aG ae Tryz.func14 rfl (by decide) (n:=Tryz.f14.ntmps - 3) rfl rfl fun w0 av=>?_
 conv=>whnf
 repeat (refine aa.of ?_;conv=>whnf)
 refine aw.pure h1 (fun w hw=>trivial) (fun v D hv=>?_)
 obtain⟨_,⟨ab,cb,lb,hcb,hlb,rfl,rfl⟩,rfl⟩:=hv
 conv=>whnf
 repeat (refine aa.of ?_;conv=>whnf)
 intro b7
 conv=>whnf
 repeat (refine aa.of ?_;conv=>whnf)
 refine aw.val h2 (fun w hw=>trivial) (fun v D hv=>?_)
 subst hv
 conv=>whnf
 repeat (refine aa.of ?_;conv=>whnf)
 refine ar.cT ae rfl (z:=iz default) (by kernel_rfl) fun b9=>?_
 conv=>whnf
 repeat (refine aa.of ?_;conv=>whnf)
 refine aP.bZ (F':=⟨mN ab lb,[] ++ [(b9,Row.c (iz default))] ++ []⟩) (ax.of_le ⟨by simp[Fx.and],fun w hw=>hw.2⟩) ?_
 refine aP.aX ae rfl (b:=b9) (k:=0) (X:=iz default) rfl rfl (List.all_eq_true.1 (by rfl)) (Nat.le_refl _) (bP rfl) ?_
 conv=>whnf
 repeat (refine aa.of ?_;conv=>whnf)
 refine aw.val h3 (fun w hw=>trivial) (fun v D hv=>?_)
 subst hv
 conv=>whnf
 repeat (refine aa.of ?_;conv=>whnf)
 refine ar.cT ae rfl (z:=gp mY) (by kernel_rfl) fun b11=>?_
 conv=>whnf
 repeat (refine aa.of ?_;conv=>whnf)
 refine aP.bZ (F':=⟨mN ab lb,[(b9,Row.c (iz default))] ++ [(b11,Row.c (gp mY))] ++ []⟩) (ax.of_le ⟨by simp[Fx.and],fun w hw=>hw⟩) ?_
 refine aP.aX ae rfl (b:=b11) (k:=0) (X:=gp mY) rfl rfl (List.all_eq_true.1 (by rfl)) (Nat.le_refl _) (bP rfl) ?_
 conv=>whnf
 repeat (refine aa.of ?_;conv=>whnf)
 refine bF.no (by simp[aE]) ?_
 conv=>whnf
 refine az.draw ae mixed rfl rfl ?_
 conv=>whnf
 repeat' (first
  | (refine And.intro ?_ ?_<;>conv=>whnf)
  | (refine cj.row rfl ?_;conv=>whnf)
  | (refine cj.call rfl ?_;conv=>whnf)
  | (refine dv.of ?_;conv=>whnf)
  | (refine aw.pure hB (fun w hw=>trivial) (fun v D hv=>?_);obtain⟨hc,hhc,rfl,rfl⟩:=hv;conv=>whnf)
  | (refine aw.pure h4 (fun w hw=>trivial) (fun v D hv=>?_);obtain⟨_,⟨ap,cp,lp,hcp,hlp,rfl,rfl⟩,rfl⟩:=hv;conv=>whnf)
  | (refine ar.build ae rfl rfl rfl [.agg ⟨cu ⟨1,1,64⟩⟩] rfl rfl (by simp[Value.cells,cu]) (by decide) fun b5=>?_;conv=>whnf)
  | (refine ak.aQ ae rfl rfl (ad:=⟨b9,0,none⟩) (k:=0) (L:=iz default) (m:=iz default) (aK.row (by simp[Fx.and])) rfl rfl rfl ?_;conv=>whnf)
  | (refine ak.aQ ae rfl rfl (ad:=⟨b11,0,none⟩) (k:=0) (L:=gp mY) (m:=gp mY) (aK.row (by simp[Fx.and])) rfl rfl rfl ?_;conv=>whnf))
 all_goals
  refine ak.fo ae rfl rfl (kE (n:=376) (X:=aT (Bt.pR ⟨nx,⟨hc,cl⟩,⟨⟨some ⟨b5,0,none⟩,1⟩,qb⟩,⟨⟨some ap,cp⟩,lp⟩,⟨⟨some ab,cb⟩,lb⟩⟩ (jL 0) default)) (by kernel_rfl) (by kernel_rfl) (by kernel_rfl) ?_)
  obtain⟨X,hX⟩ : ∃ X:Bt,X=⟨nx,⟨hc,cl⟩,⟨⟨some ⟨b5,0,none⟩,1⟩,qb⟩,⟨⟨some ap,cp⟩,lp⟩,⟨⟨some ab,cb⟩,lb⟩⟩:=⟨_,rfl⟩
  rw[← hX]
  conv=>whnf
  repeat (refine aa.of ?_;conv=>whnf)
  refine ar.bQ fun b13=>?_
  conv=>whnf
  repeat (refine aa.of ?_;conv=>whnf)
  have hXt:X.ti.l=qb∧X.nx=nx∧X.cp.l=cl:=by rw[hX];exact⟨rfl,rfl,rfl⟩
  have hXo:X.Ok:=by
   rw[hX]
   exact⟨hhc,⟨fun h=>(by cases h),Nat.le_refl _⟩,⟨fun h=>(by cases h),by rw[hlp.1];exact hcp⟩,⟨fun h=>(by cases h),by rw[hlb.1];exact hcb⟩,hlp,hlb⟩
  refine az.loop ae (ι:=Nat×Option Addr×Nat×List Value) ([14]++List.range' 49 20) (fun x=>x.1≤10∧Sx.cZ 1 x.1 x.2.1 x.2.2.1 x.2.2.2 ((oX x.1).map bH))
   (fun x=>[(14,.v (.int .i64 ((x.1+1:Nat):Int)))]) (fun _=>[.slice (some ab) lb.length cb::cE default]) (fun x=>⟨X.At,[] ++ [(b13,Row.c (aT (X.pR (jL x.1) ⟨⟨x.2.1,x.2.2.1⟩,oX x.1⟩)))]++bo x.2.1 x.2.2.2⟩)
   (fun x=>10 - x.1) (0,none,0,[]) ⟨Nat.zero_le _,Sx.cZ.nil 1⟩ ?_ rfl ?_ fun x hx=>?_
  · conv=>whnf
    repeat (first | exact au.nil | refine au.any ?_ | refine au.cons ?_)
  · refine ax.trans (ax.of_le (F':=⟨fun w=>mN ab lb w∧ai w hc.a (cl.flatMap bx)∧mN ap lp w,[(b5,Row.c (cu ⟨1,1,64⟩)),(b13,Row.c (aT (X.pR (jL 0) default)))]⟩) ⟨by simp[Fx.and,Value.cells],fun w hw=>by simp_all [Fx.and]⟩) (ax.trans ax.share1 (ax.of_le ⟨List.Sublist.refl _,fun w hw=>?_⟩))
    obtain⟨⟨hw1,hw2,hw3⟩,hw4⟩:=hw
    rw[hX]
    exact⟨hw2,hw4,hw3,hw1⟩
  obtain⟨i,a,cap,C⟩:=x
  obtain⟨hi,hO⟩:=hx
  dsimp only at hi hO ⊢
  conv=>whnf
  repeat (refine aa.of ?_;conv=>whnf)
  refine bF.split (fun hlt=>?_) (fun hlt=>?_)
  · have hlt':i<10:=by
     simp[aC] at hlt
     omega
    obtain⟨S,hS⟩ : ∃ S,X.pR (jL i) ⟨⟨a,cap⟩,oX i⟩=S:=⟨_,rfl⟩
    have hST:S.T=jL i:=by rw[← hS];rfl
    have hSq:S.qu=⟨⟨a,cap⟩,oX i⟩:=by rw[← hS];rfl
    rw[hS]
    conv=>whnf
    repeat (refine aa.of ?_;conv=>whnf)
    refine ar.aj (ak.bj ae rfl rfl rfl (i+1) rfl (by omega) rfl ?_)
    conv=>whnf
    repeat (refine aa.of ?_;conv=>whnf)
    refine aP.aX ae rfl (b:=b13) (k:=(i+1)*8) (X:=aT { S with T:=jL (i+1) }) (by rw[Addr.bE,Addr.bE,Addr.bE];simp) rfl (List.all_eq_true.1 (by rfl)) (by rw[ba];show _+1≤_;omega) (by rw[← xK hlt',← hST];exact yU S 1 (i+1) (by omega)) ?_
    obtain⟨S1,hS1⟩ : ∃ S1:bW,S1={ S with T:=jL (i+1) }:=⟨_,rfl⟩
    rw[← hS1]
    have hq1:(aT S1)[273]? = some (.slice a i cap):=by
     rw[yu,hS1]
     show some (S.qu.v)=_
     rw[hSq]
     show some (Value.slice a (oX i).length cap)=_
     rw[w6]
    conv=>whnf
    repeat (refine aa.of ?_;conv=>whnf)
    refine ar.aj (ak.aH ae rfl rfl (ad:=⟨b13,0,none⟩) (k:=273) (L:=aT S1) (v:=.slice a i cap) (aK.row (by simp)) (fun _=>rfl) hq1 ?_)
    conv=>whnf
    repeat (refine aa.of ?_;conv=>whnf)
    refine ar.build ae rfl rfl rfl [.int .i64 ((i+1:Nat):Int)] rfl rfl (by simp[Value.cells]) (by decide) fun b65=>?_
    conv=>whnf
    repeat (refine aa.of ?_;conv=>whnf)
    refine ar.bZ (F':=⟨X.At,[(b13,Row.c (aT S1))]++bo a C ++ [(b65,Row.c [.int .i64 ((i+1:Nat):Int)])]⟩) (ax.of_le ⟨by simp[Value.cells],fun w hw=>hw⟩) ?_
    refine ar.fk ae rfl rfl rfl rfl rfl rfl (M:=[.int .i64 ((i+1:Nat):Int)]) hO (aK.row (by simp)) rfl (List.all_eq_true.1 (by rfl)) (by omega) (by show(i+i/4+600)*8≤2 ^ 48;omega) fun a' c' C' hO'=>?_
    conv=>whnf
    repeat (refine aa.of ?_;conv=>whnf)
    refine aP.bZ (F':=⟨X.At,[] ++ [(b13,Row.c (aT S1))]++bo a' C'⟩) (ax.of_le ⟨by simp,fun w hw=>hw⟩) ?_
    refine aP.aX ae rfl (b:=b13) (k:=273) (X:=aT { S1 with qu:=⟨⟨a',c'⟩,oX (i+1)⟩ }) (by rw[Addr.bE]) rfl (List.all_eq_true.1 (by rfl)) (by rw[ba];decide) (sY S1 (w6 (i+1))) ?_
    conv=>whnf
    repeat (refine aa.of ?_;conv=>whnf)
    refine⟨(i+1,a',c',C'),⟨⟨hlt',?_⟩,by dsimp only;omega⟩,?_,?_,ax.of_le ⟨by dsimp only;rw[hS1,← hS];exact List.Sublist.refl _,fun w hw=>hw⟩⟩
    · dsimp only
      rw[zO,List.map_append]
      exact hO'
    · conv=>whnf
      refine⟨?_,rfl⟩
      repeat (first | exact au.nil | refine au.any ?_ | refine au.cons ?_ | refine au.eq (congrArg (fun z=>SV.v (Value.int .i64 z)) (by rw[wrap_i64 (by omega)];omega)) ?_)
    · conv=>whnf
      exact⟨⟨rfl,rfl⟩,trivial⟩
  · have hie:i=10:=by
     simp[aC] at hlt
     omega
    subst hie
    obtain⟨S,hS⟩ : ∃ S,X.pR (jL 10) ⟨⟨a,cap⟩,oX 10⟩=S:=⟨_,rfl⟩
    have hST:S.T=jL 10:=by rw[← hS];rfl
    have hSq:S.qu=⟨⟨a,cap⟩,oX 10⟩:=by rw[← hS];rfl
    rw[hS]
    conv=>whnf
    repeat (refine aa.of ?_;conv=>whnf)
    refine ar.aj (ak.bj ae rfl rfl rfl 16 rfl (by decide) rfl ?_)
    conv=>whnf
    repeat (refine aa.of ?_;conv=>whnf)
    refine aP.aX ae rfl (b:=b13) (k:=16*8) (X:=aT { S with T:=dE }) (by rw[Addr.bE,Addr.bE,Addr.bE];rfl) rfl (List.all_eq_true.1 (by rfl)) (by rw[ba];decide) (by rw[← zJ,← hST];exact yU S 2 16 (by omega)) ?_
    obtain⟨S1,hS1⟩ : ∃ S1:bW,S1={ S with T:=dE }:=⟨_,rfl⟩
    rw[← hS1]
    have hq1:(aT S1)[273]? = some (.slice a 10 cap):=by
     rw[yu,hS1]
     show some (S.qu.v)=_
     rw[hSq]
     rfl
    conv=>whnf
    repeat (refine aa.of ?_;conv=>whnf)
    refine ar.aj (ak.aH ae rfl rfl (ad:=⟨b13,0,none⟩) (k:=273) (L:=aT S1) (v:=.slice a 10 cap) (aK.row (by simp)) (fun _=>rfl) hq1 ?_)
    conv=>whnf
    repeat (refine aa.of ?_;conv=>whnf)
    refine ar.build ae rfl rfl rfl [.int .i64 16] rfl rfl (by simp[Value.cells]) (by decide) fun b65=>?_
    conv=>whnf
    repeat (refine aa.of ?_;conv=>whnf)
    refine ar.bZ (F':=⟨X.At,[(b13,Row.c (aT S1))]++bo a C ++ [(b65,Row.c [.int .i64 16])]⟩) (ax.of_le ⟨by simp[Value.cells],fun w hw=>hw⟩) ?_
    refine ar.fk ae rfl rfl rfl rfl rfl rfl (M:=[.int .i64 16]) hO (aK.row (by simp)) rfl (List.all_eq_true.1 (by rfl)) (by omega) (by decide) fun a' c' C' hO'=>?_
    conv=>whnf
    repeat (refine aa.of ?_;conv=>whnf)
    refine aP.bZ (F':=⟨X.At,[] ++ [(b13,Row.c (aT S1))]++bo a' C'⟩) (ax.of_le ⟨by simp,fun w hw=>hw⟩) ?_
    refine aP.aX ae rfl (b:=b13) (k:=273) (X:=aT { S1 with qu:=⟨⟨a',c'⟩,oX 10 ++ [16]⟩ }) (by rw[Addr.bE]) rfl (List.all_eq_true.1 (by rfl)) (by rw[ba];decide) (sY S1 (l:=oX 10 ++ [16]) (n:=10+1) (by decide)) ?_
    obtain⟨S2,hS2⟩ : ∃ S2:bW,S2={ S1 with qu:=⟨⟨a',c'⟩,oX 10 ++ [16]⟩ }:=⟨_,rfl⟩
    rw[← hS2]
    have hS2':S2=X.pR dE ⟨⟨a',c'⟩,oX 10 ++ [16]⟩:=by rw[hS2,hS1,← hS];rfl
    conv=>whnf
    repeat (refine aa.of ?_;conv=>whnf)
    refine ar.aj (ak.fo ae rfl rfl ?_)
    conv=>whnf
    repeat (refine aa.of ?_;conv=>whnf)
    refine ar.bQ fun bk=>?_
    conv=>whnf
    repeat (refine aa.of ?_;conv=>whnf)
    refine⟨_,?_,X,⟨a',c'⟩,bk,b13,hXt.2.1,hXt.2.2,hXt.1,hXo,⟨hO'.cJ,hO'.fit⟩,rfl,rfl⟩
    rw[← hS2']
    refine ax.trans (ax.of_le (F':=⟨X.At,[(b13,Row.c (aT S2))]++bo a' C' ++ [(bk,Row.c [.pointer (some ⟨b13,0,none⟩)])]⟩) ⟨by simp,fun w hw=>hw⟩) ?_
    refine ax.trans (hO'.share (r1:=[(b13,Row.c (aT S2))]) (r2:=[(bk,Row.c [.pointer (some ⟨b13,0,none⟩)])])) ?_
    refine ax.trans (ax.share1 (rs:=[(bk,Row.c [.pointer (some ⟨b13,0,none⟩)])])) (ax.trans (ax.share1 (rs:=[])) (ax.imp fun w hw=>?_))
    rw[List.map_append]
    exact hw
def uw (k:Nat):Bool:=[267,268,271,307,313,317,322,326,327,332,335,340,343,344,347,348,353,356,361,364,366,372,373,374,375].contains k||(decide (k<256)&&k%8 == 7)||(decide (275≤k)&&decide (k<307))
structure lI (O:List Value):Prop where
 len:O.length=376
 one : ∀ v∈O,a7 v=true
 nil : ∀ k,uw k=true→O[k]? = some (.slice none 0 0)
noncomputable def vP:Code:=Tryz.f15.body.getD .skip
def kZ (b2 b3:Nat):List SV:=[.any,.any,.v (.pointer (some ⟨b2,0,none⟩)),.v (.pointer (some ⟨b3,0,none⟩))]++List.replicate 247 .any
noncomputable def BY (Rel:Value→Fx→Prop):Exit→KT:=lz aY Tryz.f15.results.toList (eg Rel)
def dP (n:Nat) (Rel:Value→Fx→Prop) (O Z:List Value) (D:World→Prop) (w0:World) (av:Nat→Prop) (b2 b3:Nat):Prop:=az Tryz.prog w0 (fun _ _=>False) av (cY n vP) (kZ b2 b3) [] [] ⟨D,[(b2,Row.c Z),(b3,Row.c O)]⟩ (BY Rel)
section
variable {Rel:Value→Fx→Prop} {O Z:List Value} {D:World→Prop} {w0:World} {av:Nat→Prop} {b2 b3:Nat}
theorem Ez (hO:lI O) (hZ:Z.length=376) (hR:Rel (.agg ⟨O⟩) ⟨D,[]⟩):dP 14 Rel O Z D w0 av b2 b3:=by
 unfold dP
 refine az.cr ae 1 (ι:=Unit) (fun _=>True) (fun _=>kZ b2 b3) (fun _=>[]) (fun _=>⟨D,[] ++ [(b2,Row.c O)] ++ []⟩) ?_ ?_
 · conv=>whnf
   repeat (refine aa.of ?_;conv=>whnf)
   refine ar.aj (ak.aQ ae rfl rfl (ad:=⟨b3,0,none⟩) (k:=0) (L:=O) (m:=O) (aK.row (by simp)) rfl (by rw[List.drop_zero];exact List.take_of_length_le (by rw[hO.len];exact Nat.le_refl _)) hO.len ?_)
   conv=>whnf
   repeat (refine aa.of ?_;conv=>whnf)
   refine aP.bZ (F':=⟨D,[] ++ [(b2,Row.c Z)] ++ []⟩) (ax.of_le ⟨by simp,fun w hw=>hw⟩) ?_
   refine aP.aX ae rfl (b:=b2) (k:=0) (X:=O) rfl (by exact hO.len) (by exact hO.one) (by rw[hZ];exact Nat.le_refl _) (bP (by rw[hZ];exact hO.len)) ?_
   conv=>whnf
   repeat (refine aa.of ?_;conv=>whnf)
   refine⟨(),trivial,[],⟨by decide,by simp,rfl⟩,?_,ax.refl _⟩
   repeat (first | exact au.nil | refine au.any ?_ | refine au.cons ?_)
 · intro _ _ bs' hbs'
   obtain rfl:=List.eq_nil_of_length_eq_zero hbs'
   refine az.sw (j:=2) rfl ?_
   refine az.aG ae ?_
   conv=>whnf
   refine uk hO.len ?_
   conv=>whnf
   exact⟨⟨D,[]⟩,ax.refl _,hR⟩
theorem Ef (hO:lI O) (hN:dP 14 Rel O Z D w0 av b2 b3):dP 13 Rel O Z D w0 av b2 b3:=by
 unfold dP
 refine az.cr ae 1 (ι:=Unit) (fun _=>True) (fun _=>kZ b2 b3) (fun _=>[]) (fun _=>⟨D,[(b2,Row.c Z),(b3,Row.c O)]⟩) ?_ ?_
 · conv=>whnf
   refine az.draw ae mixed rfl rfl ?_
   conv=>whnf
   repeat' (first
    | (refine cj.same rfl ?_;conv=>whnf)
    | (refine ak.aH ae rfl rfl (ad:=⟨b3,0,none⟩) (k:=373) (L:=O) (v:=.slice none 0 0) (aK.row (by simp)) (fun _=>rfl) (hO.nil 373 rfl) ?_;conv=>whnf)
    | (refine ak.aH ae rfl rfl (ad:=⟨b3,0,none⟩) (k:=374) (L:=O) (v:=.slice none 0 0) (aK.row (by simp)) (fun _=>rfl) (hO.nil 374 rfl) ?_;conv=>whnf)
    | (refine ak.aH ae rfl rfl (ad:=⟨b3,0,none⟩) (k:=375) (L:=O) (v:=.slice none 0 0) (aK.row (by simp)) (fun _=>rfl) (hO.nil 375 rfl) ?_;conv=>whnf)
    | (refine aw.val mP (fun w hw=>trivial) (fun v G hv=>?_);subst hv;conv=>whnf)
    | (refine aw.val tH (fun w hw=>trivial) (fun v G hv=>?_);subst hv;conv=>whnf)
    | (refine aw.val tM (fun w hw=>trivial) (fun v G hv=>?_);subst hv;conv=>whnf)
    | (refine aP.bZ (F':=⟨D,[(b2,Row.c Z)] ++ [(b3,Row.c O)] ++ []⟩) (ax.of_le ⟨by simp,fun w hw=>hw⟩) ?_;refine aP.aX ae rfl (b:=b3) (k:=373) (X:=O) rfl rfl (List.all_eq_true.1 (by rfl)) (by rw[hO.len];decide) (cP (hO.nil 373 rfl)) ?_;conv=>whnf)
    | (refine aP.bZ (F':=⟨D,[(b2,Row.c Z)] ++ [(b3,Row.c O)] ++ []⟩) (ax.of_le ⟨by simp,fun w hw=>hw⟩) ?_;refine aP.aX ae rfl (b:=b3) (k:=374) (X:=O) rfl rfl (List.all_eq_true.1 (by rfl)) (by rw[hO.len];decide) (cP (hO.nil 374 rfl)) ?_;conv=>whnf)
    | (refine aP.bZ (F':=⟨D,[(b2,Row.c Z)] ++ [(b3,Row.c O)] ++ []⟩) (ax.of_le ⟨by simp,fun w hw=>hw⟩) ?_;refine aP.aX ae rfl (b:=b3) (k:=375) (X:=O) rfl rfl (List.all_eq_true.1 (by rfl)) (by rw[hO.len];decide) (cP (hO.nil 375 rfl)) ?_;conv=>whnf))
   all_goals refine⟨(),trivial,[],⟨by decide,by simp,rfl⟩,?_,ax.of_le ⟨by simp,fun w hw=>hw⟩⟩
   all_goals repeat (first | exact au.nil | refine au.any ?_ | refine au.cons ?_)
 · intro _ _ bs' hbs'
   obtain rfl:=List.eq_nil_of_length_eq_zero hbs'
   rw[aS]
   exact hN
theorem DO (hO:lI O) (hN:dP 13 Rel O Z D w0 av b2 b3):dP 12 Rel O Z D w0 av b2 b3:=by
 unfold dP
 refine az.cr ae 1 (ι:=Unit) (fun _=>True) (fun _=>kZ b2 b3) (fun _=>[]) (fun _=>⟨D,[(b2,Row.c Z),(b3,Row.c O)]⟩) ?_ ?_
 · conv=>whnf
   repeat (refine aa.of ?_;conv=>whnf)
   refine ar.aj (ak.aH ae rfl rfl (ad:=⟨b3,0,none⟩) (k:=372) (L:=O) (v:=.slice none 0 0) (aK.row (by simp)) (fun _=>rfl) (hO.nil 372 rfl) ?_)
   conv=>whnf
   repeat (refine aa.of ?_;conv=>whnf)
   refine az.loop ae (ι:=Unit) ([9]++List.range' 220 18) (fun _=>True) (fun _=>[(220,.v (.int .i64 0))]) (fun _=>[]) (fun _=>⟨D,[(b2,Row.c Z),(b3,Row.c O)]⟩) (fun _=>0) () trivial ?_ rfl (ax.of_le ⟨by simp,fun w hw=>hw⟩) fun _ _=>?_
   · conv=>whnf
     repeat (first | exact au.nil | refine au.any ?_ | refine au.cons ?_)
   conv=>whnf
   repeat (refine aa.of ?_;conv=>whnf)
   refine bF.no (by simp[ao]) ?_
   conv=>whnf
   repeat (refine aa.of ?_;conv=>whnf)
   refine⟨(),trivial,[],⟨by decide,by simp,rfl⟩,?_,ax.of_le ⟨by simp,fun w hw=>hw⟩⟩
   repeat (first | exact au.nil | refine au.any ?_ | refine au.cons ?_)
 · intro _ _ bs' hbs'
   obtain rfl:=List.eq_nil_of_length_eq_zero hbs'
   rw[aS]
   exact hN
theorem DY (hO:lI O) (hN:dP 12 Rel O Z D w0 av b2 b3):dP 11 Rel O Z D w0 av b2 b3:=by
 unfold dP
 refine az.cr ae 1 (ι:=Unit) (fun _=>True) (fun _=>kZ b2 b3) (fun _=>[]) (fun _=>⟨D,[(b2,Row.c Z),(b3,Row.c O)]⟩) ?_ ?_
 · conv=>whnf
   refine az.draw ae mixed rfl rfl ?_
   conv=>whnf
   repeat' (first
    | (refine cj.same rfl ?_;conv=>whnf)
    | (refine ak.aH ae rfl rfl (ad:=⟨b3,0,none⟩) (k:=366) (L:=O) (v:=.slice none 0 0) (aK.row (by simp)) (fun _=>rfl) (hO.nil 366 rfl) ?_;conv=>whnf)
    | (refine ak.aH ae rfl rfl (ad:=⟨b3,0,none⟩) (k:=372) (L:=O) (v:=.slice none 0 0) (aK.row (by simp)) (fun _=>rfl) (hO.nil 372 rfl) ?_;conv=>whnf)
    | (refine aw.val tY (fun w hw=>trivial) (fun v G hv=>?_);subst hv;conv=>whnf)
    | (refine aw.val tF (fun w hw=>trivial) (fun v G hv=>?_);subst hv;conv=>whnf)
    | (refine aP.bZ (F':=⟨D,[(b2,Row.c Z)] ++ [(b3,Row.c O)] ++ []⟩) (ax.of_le ⟨by simp,fun w hw=>hw⟩) ?_;refine aP.aX ae rfl (b:=b3) (k:=366) (X:=O) rfl rfl (List.all_eq_true.1 (by rfl)) (by rw[hO.len];decide) (cP (hO.nil 366 rfl)) ?_;conv=>whnf)
    | (refine aP.bZ (F':=⟨D,[(b2,Row.c Z)] ++ [(b3,Row.c O)] ++ []⟩) (ax.of_le ⟨by simp,fun w hw=>hw⟩) ?_;refine aP.aX ae rfl (b:=b3) (k:=372) (X:=O) rfl rfl (List.all_eq_true.1 (by rfl)) (by rw[hO.len];decide) (cP (hO.nil 372 rfl)) ?_;conv=>whnf))
   all_goals refine⟨(),trivial,[],⟨by decide,by simp,rfl⟩,?_,ax.of_le ⟨by simp,fun w hw=>hw⟩⟩
   all_goals repeat (first | exact au.nil | refine au.any ?_ | refine au.cons ?_)
 · intro _ _ bs' hbs'
   obtain rfl:=List.eq_nil_of_length_eq_zero hbs'
   rw[aS]
   exact hN
theorem D_ (hO:lI O) (hN:dP 11 Rel O Z D w0 av b2 b3):dP 10 Rel O Z D w0 av b2 b3:=by
 unfold dP
 refine az.cr ae 1 (ι:=Unit) (fun _=>True) (fun _=>kZ b2 b3) (fun _=>[]) (fun _=>⟨D,[(b2,Row.c Z),(b3,Row.c O)]⟩) ?_ ?_
 · conv=>whnf
   repeat (refine aa.of ?_;conv=>whnf)
   refine ar.aj (ak.aH ae rfl rfl (ad:=⟨b3,0,none⟩) (k:=326) (L:=O) (v:=.slice none 0 0) (aK.row (by simp)) (fun _=>rfl) (hO.nil 326 rfl) ?_)
   conv=>whnf
   repeat (refine aa.of ?_;conv=>whnf)
   refine az.loop ae (ι:=Unit) ([8]++List.range' 186 18) (fun _=>True) (fun _=>[(186,.v (.int .i64 0))]) (fun _=>[]) (fun _=>⟨D,[(b2,Row.c Z),(b3,Row.c O)]⟩) (fun _=>0) () trivial ?_ rfl (ax.of_le ⟨by simp,fun w hw=>hw⟩) fun _ _=>?_
   · conv=>whnf
     repeat (first | exact au.nil | refine au.any ?_ | refine au.cons ?_)
   conv=>whnf
   repeat (refine aa.of ?_;conv=>whnf)
   refine bF.no (by simp[ao]) ?_
   conv=>whnf
   repeat (refine aa.of ?_;conv=>whnf)
   refine⟨(),trivial,[],⟨by decide,by simp,rfl⟩,?_,ax.of_le ⟨by simp,fun w hw=>hw⟩⟩
   repeat (first | exact au.nil | refine au.any ?_ | refine au.cons ?_)
 · intro _ _ bs' hbs'
   obtain rfl:=List.eq_nil_of_length_eq_zero hbs'
   rw[aS]
   exact hN
theorem EO (hO:lI O) (hN:dP 10 Rel O Z D w0 av b2 b3):dP 9 Rel O Z D w0 av b2 b3:=by
 unfold dP
 refine az.cr ae 1 (ι:=Unit) (fun _=>True) (fun _=>kZ b2 b3) (fun _=>[]) (fun _=>⟨D,[(b2,Row.c Z),(b3,Row.c O)]⟩) ?_ ?_
 · conv=>whnf
   refine az.draw ae mixed rfl rfl ?_
   conv=>whnf
   repeat' (first
    | (refine cj.same rfl ?_;conv=>whnf)
    | (refine ak.aH ae rfl rfl (ad:=⟨b3,0,none⟩) (k:=327) (L:=O) (v:=.slice none 0 0) (aK.row (by simp)) (fun _=>rfl) (hO.nil 327 rfl) ?_;conv=>whnf)
    | (refine ak.aH ae rfl rfl (ad:=⟨b3,0,none⟩) (k:=326) (L:=O) (v:=.slice none 0 0) (aK.row (by simp)) (fun _=>rfl) (hO.nil 326 rfl) ?_;conv=>whnf)
    | (refine aw.val qd (fun w hw=>trivial) (fun v G hv=>?_);subst hv;conv=>whnf)
    | (refine aw.val s8 (fun w hw=>trivial) (fun v G hv=>?_);subst hv;conv=>whnf)
    | (refine aP.bZ (F':=⟨D,[(b2,Row.c Z)] ++ [(b3,Row.c O)] ++ []⟩) (ax.of_le ⟨by simp,fun w hw=>hw⟩) ?_;refine aP.aX ae rfl (b:=b3) (k:=327) (X:=O) rfl rfl (List.all_eq_true.1 (by rfl)) (by rw[hO.len];decide) (cP (hO.nil 327 rfl)) ?_;conv=>whnf)
    | (refine aP.bZ (F':=⟨D,[(b2,Row.c Z)] ++ [(b3,Row.c O)] ++ []⟩) (ax.of_le ⟨by simp,fun w hw=>hw⟩) ?_;refine aP.aX ae rfl (b:=b3) (k:=326) (X:=O) rfl rfl (List.all_eq_true.1 (by rfl)) (by rw[hO.len];decide) (cP (hO.nil 326 rfl)) ?_;conv=>whnf))
   all_goals refine⟨(),trivial,[],⟨by decide,by simp,rfl⟩,?_,ax.of_le ⟨by simp,fun w hw=>hw⟩⟩
   all_goals repeat (first | exact au.nil | refine au.any ?_ | refine au.cons ?_)
 · intro _ _ bs' hbs'
   obtain rfl:=List.eq_nil_of_length_eq_zero hbs'
   rw[aS]
   exact hN
def mv:List Nat:=[313,317,322,332,335,340,343,344,347,348,353,356,361,364]
theorem x9 (i:Nat) (hi:i<14):uw (mv[i]!)=true∧mv[i]! < 376:=by
 have h:(List.range 14).all (fun i=>uw (mv[i]!)&&decide (mv[i]! < 376))=true:=by decide
 have:=List.all_eq_true.1 h i (List.mem_range.2 hi)
 simpa using this
theorem EP (hO:lI O) (hN:dP 9 Rel O Z D w0 av b2 b3):dP 8 Rel O Z D w0 av b2 b3:=by
 unfold dP
 refine az.cr ae 1 (ι:=Unit) (fun _=>True) (fun _=>kZ b2 b3) (fun _=>[]) (fun _=>⟨D,[(b2,Row.c Z),(b3,Row.c O)]⟩) ?_ ?_
 · conv=>whnf
   repeat (refine aa.of ?_;conv=>whnf)
   refine ar.build ae rfl rfl rfl (mv.map fun k=>.pointer (some ⟨b3,k,none⟩)) rfl rfl (by intro v hv;obtain⟨k,-,rfl⟩:=List.mem_map.1 hv;rfl) (by decide) fun bp=>?_
   conv=>whnf
   repeat (refine aa.of ?_;conv=>whnf)
   obtain⟨V,hV⟩ : ∃ V,V=(mv.map fun k=>Value.pointer (some ⟨b3,k,none⟩)).flatMap (·.cells.toList):=⟨_,rfl⟩
   rw[← hV]
   have hVg : ∀ i,i<14→V[i]? = some (.pointer (some ⟨b3,mv[i]!,none⟩)):=fun i hi=>by
    rw[hV]
    match i,hi with
    | 0,_ | 1,_ | 2,_ | 3,_ | 4,_ | 5,_ | 6,_ | 7,_ | 8,_ | 9,_ | 10,_ | 11,_ | 12,_ | 13,_=>rfl
   refine az.loop ae (ι:=Nat) ([7,159]++List.range' 160 10) (fun x=>x≤14) (fun x=>[(159,.v (.int .i64 (x:Int)))]) (fun _=>[]) (fun _=>⟨D,[(b2,Row.c Z)] ++ [(b3,Row.c O)] ++ [(bp,Row.c V)]⟩) (fun x=>14 - x) 0 (Nat.zero_le _) ?_ rfl (ax.of_le ⟨by simp,fun w hw=>hw⟩) fun i hi=>?_
   · conv=>whnf
     repeat (first | exact au.nil | refine au.any ?_ | refine au.cons ?_)
   conv=>whnf
   repeat (refine aa.of ?_;conv=>whnf)
   refine bF.split (fun hlt=>?_) (fun hlt=>?_)
   · have hlt':i<14:=by
      simp[ao] at hlt
      omega
     obtain⟨hk1,hk2⟩:=x9 i hlt'
     have hVi:=hVg i hlt'
     obtain⟨k,hk⟩ : ∃ k,mv[i]! = k:=⟨_,rfl⟩
     rw[hk] at hk1 hk2 hVi
     have hOk:=hO.nil k hk1
     conv=>whnf
     repeat (refine aa.of ?_;conv=>whnf)
     refine ar.aj (ak.index ae rfl rfl rfl (by omega) (by omega) (fun h=>by cases h) fun ad had=>?_)
     conv=>whnf
     repeat (refine aa.of ?_;conv=>whnf)
     refine ar.aj (ak.aH ae rfl rfl (ad:=ad) (k:=i) (L:=V) (v:=.pointer (some ⟨b3,k,none⟩)) (had ▸ aK.row (by simp)) (fun _=>by simp) hVi ?_)
     conv=>whnf
     repeat (refine aa.of ?_;conv=>whnf)
     refine ar.aj (ak.aH ae rfl rfl (ad:=⟨b3,0,none⟩) (k:=k) (L:=O) (v:=.slice none 0 0) (aK.row (by simp)) (fun _=>by simp[Addr.add]) hOk ?_)
     conv=>whnf
     repeat (refine aa.of ?_;conv=>whnf)
     refine aw.val gH (fun w hw=>trivial) (fun v G hv=>?_)
     subst hv
     conv=>whnf
     repeat (refine aa.of ?_;conv=>whnf)
     refine aP.aX ae rfl (b:=b3) (k:=k) (X:=O) rfl rfl (List.all_eq_true.1 (by rfl)) (by rw[hO.len];show k+1≤376;omega) (cP hOk) ?_
     conv=>whnf
     repeat (refine aa.of ?_;conv=>whnf)
     refine⟨i+1,⟨hlt',by dsimp only;omega⟩,?_,?_,ax.refl _⟩
     · conv=>whnf
       refine⟨?_,rfl⟩
       repeat (first | exact au.nil | refine au.any ?_ | refine au.cons ?_ | refine au.eq (by rw[wrap_i64 (by omega)];rfl) ?_)
     · conv=>whnf
       exact trivial
   · conv=>whnf
     repeat (refine aa.of ?_;conv=>whnf)
     refine⟨(),trivial,[],⟨by decide,by simp,rfl⟩,?_,ax.of_le ⟨by simp,fun w hw=>hw⟩⟩
     repeat (first | exact au.nil | refine au.any ?_ | refine au.cons ?_)
 · intro _ _ bs' hbs'
   obtain rfl:=List.eq_nil_of_length_eq_zero hbs'
   rw[aS]
   exact hN
theorem Dt (hO:lI O) (i:Nat) (hi:i<32):O[i*8+7]? = some (.slice none 0 0):=hO.nil _ (by
 have h:(List.range 32).all (fun i=>uw (i*8+7))=true:=by decide
 exact List.all_eq_true.1 h i (List.mem_range.2 hi))
theorem DD (hO:lI O) (i:Nat) (hi:i<32):O[275+i]? = some (.slice none 0 0):=hO.nil _ (by
 have h:(List.range 32).all (fun i=>uw (275+i))=true:=by decide
 exact List.all_eq_true.1 h i (List.mem_range.2 hi))
theorem EM (hO:lI O) (hN:dP 4 Rel O Z D w0 av b2 b3):dP 3 Rel O Z D w0 av b2 b3:=by
 unfold dP
 refine az.cr ae 1 (ι:=Unit) (fun _=>True) (fun _=>kZ b2 b3) (fun _=>[]) (fun _=>⟨D,[(b2,Row.c Z),(b3,Row.c O)]⟩) ?_ ?_
 · conv=>whnf
   repeat (refine aa.of ?_;conv=>whnf)
   refine az.loop ae (ι:=Nat) ([4,19]++List.range' 20 21) (fun x=>x≤32) (fun x=>[(19,.v (.int .i64 (x:Int)))]) (fun _=>[]) (fun _=>⟨D,[(b2,Row.c Z)] ++ [(b3,Row.c O)] ++ []⟩) (fun x=>32 - x) 0 (Nat.zero_le _) ?_ rfl (ax.of_le ⟨by simp,fun w hw=>hw⟩) fun i hi=>?_
   · conv=>whnf
     repeat (first | exact au.nil | refine au.any ?_ | refine au.cons ?_)
   conv=>whnf
   repeat (refine aa.of ?_;conv=>whnf)
   refine bF.split (fun hlt=>?_) (fun hlt=>?_)
   · have hlt':i<32:=by
      simp[ao] at hlt
      omega
     have hT:=Dt hO i hlt'
     have hS:=DD hO i hlt'
     conv=>whnf
     repeat (refine aa.of ?_;conv=>whnf)
     refine ar.aj (ak.bj ae rfl rfl rfl i rfl hlt' rfl ?_)
     conv=>whnf
     repeat (refine aa.of ?_;conv=>whnf)
     refine ar.aj (ak.aH ae rfl rfl (ad:=⟨b3,0,none⟩) (k:=i*8+7) (L:=O) (v:=.slice none 0 0) (aK.row (by simp)) (fun _=>Addr.bD rfl _ _) hT ?_)
     conv=>whnf
     repeat (refine aa.of ?_;conv=>whnf)
     refine aw.val gH (fun w hw=>trivial) (fun v G hv=>?_)
     subst hv
     conv=>whnf
     repeat (refine aa.of ?_;conv=>whnf)
     refine ar.aj (ak.bj ae rfl rfl rfl i rfl hlt' rfl ?_)
     conv=>whnf
     repeat (refine aa.of ?_;conv=>whnf)
     refine aP.aX ae rfl (b:=b3) (k:=i*8+7) (X:=O) (by rw[Addr.bE];exact jR _ _ _) rfl (List.all_eq_true.1 (by rfl)) (by rw[hO.len];show _+1≤376;omega) (cP hT) ?_
     conv=>whnf
     repeat (refine aa.of ?_;conv=>whnf)
     refine ar.aj (ak.bj ae rfl rfl rfl i rfl hlt' rfl ?_)
     conv=>whnf
     repeat (refine aa.of ?_;conv=>whnf)
     refine ar.aj (ak.aH ae rfl rfl (ad:=⟨b3,0,none⟩) (k:=275+i) (L:=O) (v:=.slice none 0 0) (aK.row (by simp)) (fun _=>by rw[jR];simp[Addr.add]) hS ?_)
     conv=>whnf
     repeat (refine aa.of ?_;conv=>whnf)
     refine aw.val ta (fun w hw=>trivial) (fun v G hv=>?_)
     subst hv
     conv=>whnf
     repeat (refine aa.of ?_;conv=>whnf)
     refine ar.aj (ak.bj ae rfl rfl rfl i rfl hlt' rfl ?_)
     conv=>whnf
     repeat (refine aa.of ?_;conv=>whnf)
     refine aP.aX ae rfl (b:=b3) (k:=275+i) (X:=O) (by rw[jR];simp[Addr.add]) rfl (List.all_eq_true.1 (by rfl)) (by rw[hO.len];show _+1≤376;omega) (cP hS) ?_
     conv=>whnf
     repeat (refine aa.of ?_;conv=>whnf)
     refine⟨i+1,⟨hlt',by dsimp only;omega⟩,?_,?_,ax.refl _⟩
     · conv=>whnf
       refine⟨?_,rfl⟩
       repeat (first | exact au.nil | refine au.any ?_ | refine au.cons ?_ | refine au.eq (by rw[wrap_i64 (by omega)];rfl) ?_)
     · conv=>whnf
       exact trivial
   · conv=>whnf
     repeat (refine aa.of ?_;conv=>whnf)
     refine⟨(),trivial,[],⟨by decide,by simp,rfl⟩,?_,ax.of_le ⟨by simp,fun w hw=>hw⟩⟩
     repeat (first | exact au.nil | refine au.any ?_ | refine au.cons ?_)
 · intro _ _ bs' hbs'
   obtain rfl:=List.eq_nil_of_length_eq_zero hbs'
   rw[aS]
   exact hN
theorem EY (hO:lI O) (hN:dP 5 Rel O Z D w0 av b2 b3):dP 4 Rel O Z D w0 av b2 b3:=by
 unfold dP
 refine az.cr ae 1 (ι:=Unit) (fun _=>True) (fun _=>kZ b2 b3) (fun _=>[]) (fun _=>⟨D,[(b2,Row.c Z),(b3,Row.c O)]⟩) ?_ ?_
 · conv=>whnf
   refine az.draw ae mixed rfl rfl ?_
   conv=>whnf
   repeat' (first
    | (refine cj.same rfl ?_;conv=>whnf)
    | (refine ak.aH ae rfl rfl (ad:=⟨b3,0,none⟩) (k:=267) (L:=O) (v:=.slice none 0 0) (aK.row (by simp)) (fun _=>rfl) (hO.nil 267 rfl) ?_;conv=>whnf)
    | (refine ak.aH ae rfl rfl (ad:=⟨b3,0,none⟩) (k:=268) (L:=O) (v:=.slice none 0 0) (aK.row (by simp)) (fun _=>rfl) (hO.nil 268 rfl) ?_;conv=>whnf)
    | (refine aw.val uJ (fun w hw=>trivial) (fun v G hv=>?_);subst hv;conv=>whnf)
    | (refine aw.val tO (fun w hw=>trivial) (fun v G hv=>?_);subst hv;conv=>whnf)
    | (refine aP.bZ (F':=⟨D,[(b2,Row.c Z)] ++ [(b3,Row.c O)] ++ []⟩) (ax.of_le ⟨by simp,fun w hw=>hw⟩) ?_;refine aP.aX ae rfl (b:=b3) (k:=267) (X:=O) rfl rfl (List.all_eq_true.1 (by rfl)) (by rw[hO.len];decide) (cP (hO.nil 267 rfl)) ?_;conv=>whnf)
    | (refine aP.bZ (F':=⟨D,[(b2,Row.c Z)] ++ [(b3,Row.c O)] ++ []⟩) (ax.of_le ⟨by simp,fun w hw=>hw⟩) ?_;refine aP.aX ae rfl (b:=b3) (k:=268) (X:=O) rfl rfl (List.all_eq_true.1 (by rfl)) (by rw[hO.len];decide) (cP (hO.nil 268 rfl)) ?_;conv=>whnf))
   all_goals refine⟨(),trivial,[],⟨by decide,by simp,rfl⟩,?_,ax.of_le ⟨by simp,fun w hw=>hw⟩⟩
   all_goals repeat (first | exact au.nil | refine au.any ?_ | refine au.cons ?_)
 · intro _ _ bs' hbs'
   obtain rfl:=List.eq_nil_of_length_eq_zero hbs'
   rw[aS]
   exact hN
theorem EN (hO:lI O) (hN:dP 6 Rel O Z D w0 av b2 b3):dP 5 Rel O Z D w0 av b2 b3:=by
 unfold dP
 refine az.cr ae 1 (ι:=Unit) (fun _=>True) (fun _=>kZ b2 b3) (fun _=>[]) (fun _=>⟨D,[(b2,Row.c Z),(b3,Row.c O)]⟩) ?_ ?_
 · conv=>whnf
   repeat (refine aa.of ?_;conv=>whnf)
   refine ar.aj (ak.aH ae rfl rfl (ad:=⟨b3,0,none⟩) (k:=267) (L:=O) (v:=.slice none 0 0) (aK.row (by simp)) (fun _=>rfl) (hO.nil 267 rfl) ?_)
   conv=>whnf
   repeat (refine aa.of ?_;conv=>whnf)
   refine az.loop ae (ι:=Unit) ([5]++List.range' 57 18) (fun _=>True) (fun _=>[(57,.v (.int .i64 0))]) (fun _=>[]) (fun _=>⟨D,[(b2,Row.c Z),(b3,Row.c O)]⟩) (fun _=>0) () trivial ?_ rfl (ax.of_le ⟨by simp,fun w hw=>hw⟩) fun _ _=>?_
   · conv=>whnf
     repeat (first | exact au.nil | refine au.any ?_ | refine au.cons ?_)
   conv=>whnf
   repeat (refine aa.of ?_;conv=>whnf)
   refine bF.no (by simp[ao]) ?_
   conv=>whnf
   repeat (refine aa.of ?_;conv=>whnf)
   refine⟨(),trivial,[],⟨by decide,by simp,rfl⟩,?_,ax.of_le ⟨by simp,fun w hw=>hw⟩⟩
   repeat (first | exact au.nil | refine au.any ?_ | refine au.cons ?_)
 · intro _ _ bs' hbs'
   obtain rfl:=List.eq_nil_of_length_eq_zero hbs'
   rw[aS]
   exact hN
end
end Go.Proofs.YtlnhdpjnlffaoaaGreatDoor
namespace Go.Proofs.YtlnhdpjnlffaoaaGreatDoor
open Go Go.Sx
set_option maxRecDepth 100000
set_option maxHeartbeats 4000000
set_option linter.unusedVariables false
set_option linter.unusedSimpArgs false
def wB:Option Value→Bool
 | some (.slice none 0 0)=>true
 | _=>false
theorem yb {v:Option Value} (h:wB v=true):v=some (.slice none 0 0):=by
 unfold wB at h
 split at h
 · rfl
 · cases h
theorem Bp {k:Nat} (h:uw k=true):k<376:=by
 unfold uw at h
 simp at h
 omega
theorem ji (x:Bt) (qu:Sl Int):lI (aT (x.pR dE qu)):=by
 refine⟨ba _,fT _,fun k hk=>yb ?_⟩
 have h:(List.range 376).all (fun k=>!uw k||wB ((aT (x.pR dE qu))[k]?))=true:=by kernel_rfl
 have:=List.all_eq_true.1 h k (List.mem_range.2 (Bp hk))
 rw[hk] at this
 simpa using this
theorem CP (s:bW) {a:Option Addr} {c n:Nat} {l:List Cp} (hl:l.length=n):laid (aT s) 270 [.slice a n c]=aT { s with cp:=⟨⟨a,c⟩,l⟩ }:=by
 subst hl
 kernel_rfl
theorem Cv (s:bW) {a:Option Addr} {c n:Nat} {l:List Ti} (hl:l.length=n):laid (aT s) 272 [.slice a n c]=aT { s with ti:=⟨⟨a,c⟩,l⟩ }:=by
 subst hl
 kernel_rfl
theorem CO (s:bW) {a:Option Addr} {c n:Nat} {l:List Bs} (hl:l.length=n):laid (aT s) 274 [.slice a n c]=aT { s with pg:=⟨⟨a,c⟩,l⟩ }:=by
 subst hl
 kernel_rfl
theorem Co (s:bW) {a:Option Addr} {c n:Nat} {l:List Bs} (hl:l.length=n):laid (aT s) 308 [.slice a n c]=aT { s with bk:=⟨⟨a,c⟩,l⟩ }:=by
 subst hl
 kernel_rfl
theorem B_ (s:bW):(aT s)[271]? = some s.gr.v:=by kernel_rfl
theorem B8 (s:bW):(aT s)[307]? = some s.wi.v:=by kernel_rfl
section
variable {Rel:Value→Fx→Prop} {Z:List Value} {w0:World} {av:Nat→Prop} {b2 b3:Nat}
theorem EW (nx:Int) (cp:Sl Cp) (ti:Sl Ti) (qu:Sl Int) (a3:Addr) (c3:Nat) (pl:List Bs) (a4:Addr) (c4:Nat) (bl:List Bs) (h3:ir 96 pl) (h4:ir 160 bl) (hc3:96≤c3) (hc4:160≤c4) (D:World→Prop)
 (hN : ∀ a3' c3' pl' a4' c4' bl',ir 96 pl'→ir 160 bl'→96≤c3'→160≤c4'→dP 8 Rel (aT (Bt.pR ⟨nx,cp,ti,⟨⟨some a3',c3'⟩,pl'⟩,⟨⟨some a4',c4'⟩,bl'⟩⟩ dE qu)) Z (fun w=>(D w∧ai w (some a3') (pl'.map du))∧ai w (some a4') (bl'.map du)) w0 av b2 b3) :
 dP 7 Rel (aT (Bt.pR ⟨nx,cp,ti,⟨⟨some a3,c3⟩,pl⟩,⟨⟨some a4,c4⟩,bl⟩⟩ dE qu)) Z (fun w=>(D w∧mN a3 pl w)∧mN a4 bl w) w0 av b2 b3:=by
 unfold dP
 obtain⟨S,hS⟩ : ∃ S,Bt.pR ⟨nx,cp,ti,⟨⟨some a3,c3⟩,pl⟩,⟨⟨some a4,c4⟩,bl⟩⟩ dE qu=S:=⟨_,rfl⟩
 have e3:(aT S)[274]? = some (.slice (some a3) pl.length c3):=by rw[← hS];kernel_rfl
 have e4:(aT S)[308]? = some (.slice (some a4) bl.length c4):=by rw[← hS];kernel_rfl
 rw[hS]
 refine az.cr ae 1 (ι:=Addr×Nat×List Bs×Addr×Nat×List Bs) (fun x=>ir 96 x.2.2.1∧ir 160 x.2.2.2.2.2∧96≤x.2.1∧160≤x.2.2.2.2.1) (fun _=>kZ b2 b3) (fun _=>[])
  (fun x=>⟨fun w=>(D w∧ai w (some x.1) (x.2.2.1.map du))∧ai w (some x.2.2.2.1) (x.2.2.2.2.2.map du),[(b2,Row.c Z),(b3,Row.c (aT { S with pg:=⟨⟨some x.1,x.2.1⟩,x.2.2.1⟩,bk:=⟨⟨some x.2.2.2.1,x.2.2.2.2.1⟩,x.2.2.2.2.2⟩ }))]⟩) ?_ ?_
 · conv=>whnf
   refine az.draw ae mixed rfl rfl ?_
   conv=>whnf
   repeat' (first
    | (refine cj.call rfl ?_;conv=>whnf)
    | (refine ak.aH ae rfl rfl (ad:=⟨b3,0,none⟩) (k:=274) (L:=aT S) (v:=.slice (some a3) pl.length c3) (aK.row (by simp[Fx.and])) (fun _=>rfl) e3 ?_;conv=>whnf)
    | (refine ak.aH ae rfl rfl (ad:=⟨b3,0,none⟩) (k:=308) (L:=aT S) (v:=.slice (some a4) bl.length c4) (aK.row (by simp[Fx.and])) (fun _=>rfl) e4 ?_;conv=>whnf)
    | (refine aw.pure (pQ a3 c3 96 pl (by decide) (by decide) h3 hc3) (fun w hw=>by first | exact hw.1.2) (fun v G hv=>?_);obtain⟨a5,c5,l5,hc5,hl5,rfl,rfl⟩:=hv;conv=>whnf)
    | (refine aw.pure (pQ a4 c4 160 bl (by decide) (by decide) h4 hc4) (fun w hw=>by first | exact hw.1.2) (fun v G hv=>?_);obtain⟨a6,c6,l6,hc6,hl6,rfl,rfl⟩:=hv;conv=>whnf))
   all_goals
    refine aP.bZ (F':=⟨fun w=>(D w∧ai w (some a5) (l5.map du))∧ai w (some a6) (l6.map du),[(b2,Row.c Z)] ++ [(b3,Row.c (aT S))] ++ []⟩) (ax.of_le ⟨by simp[Fx.and],fun w hw=>⟨⟨hw.1.1.1.1,hw.1.2⟩,hw.2⟩⟩) ?_
    refine aP.aX ae rfl (b:=b3) (k:=274) (X:=aT { S with pg:=⟨⟨some a5,c5⟩,l5⟩ }) rfl rfl (List.all_eq_true.1 (by rfl)) (by rw[ba];decide) (CO S rfl) ?_
    obtain⟨S1,hS1⟩ : ∃ S1:bW,S1={ S with pg:=⟨⟨some a5,c5⟩,l5⟩ }:=⟨_,rfl⟩
    rw[← hS1]
   repeat' (first
    | (refine aP.aX ae rfl (b:=b3) (k:=308) (X:=aT { S1 with bk:=⟨⟨some a6,c6⟩,l6⟩ }) rfl rfl (List.all_eq_true.1 (by rfl)) (by rw[ba];decide) (Co S1 rfl) ?_;conv=>whnf))
   all_goals
    refine⟨(a5,c5,l5,a6,c6,l6),⟨hl5,hl6,hc5,hc6⟩,[],⟨by decide,by simp,rfl⟩,?_,ax.of_le ⟨by dsimp only;rw[hS1];exact List.Sublist.refl _,fun w hw=>hw⟩⟩
    repeat (first | exact au.nil | refine au.any ?_ | refine au.cons ?_)
 · intro x hx bs' hbs'
   obtain⟨a5,c5,l5,a6,c6,l6⟩:=x
   obtain⟨g1,g2,g3,g4⟩:=hx
   obtain rfl:=List.eq_nil_of_length_eq_zero hbs'
   rw[aS,← hS]
   exact hN a5 c5 l5 a6 c6 l6 g1 g2 g3 g4
theorem EJ (nx:Int) (a1:Addr) (c1:Nat) (cl:List Cp) (a2:Addr) (c2:Nat) (tl:List Ti) (aq:Addr) (cq:Nat) (ql:List Int) (pg bk:Sl Bs) (hcl:cl.length≤1000) (htl:tl.length≤1000) (hql:ql.length≤1000) (D:World→Prop)
 (hN : ∀ k1 k2 kq:Hd,k1.Ok cl.length→k2.Ok tl.length→kq.Ok ql.length→dP 7 Rel (aT (Bt.pR ⟨nx,⟨k1,cl⟩,⟨k2,tl⟩,pg,bk⟩ dE ⟨kq,ql⟩)) Z (fun w=>(((D w∧ai w k1.a (cl.flatMap bx))∧ai w k2.a (tl.flatMap cu))∧ai w kq.a (ql.map bH))) w0 av b2 b3)
 (hD : ∀ w,D w→ai w (some a1) (cl.flatMap bx)∧ai w (some a2) (tl.flatMap cu)∧ai w (some aq) (ql.map bH)) :
 dP 6 Rel (aT (Bt.pR ⟨nx,⟨⟨some a1,c1⟩,cl⟩,⟨⟨some a2,c2⟩,tl⟩,pg,bk⟩ dE ⟨⟨some aq,cq⟩,ql⟩)) Z D w0 av b2 b3:=by
 unfold dP
 have hO:=ji ⟨nx,⟨⟨some a1,c1⟩,cl⟩,⟨⟨some a2,c2⟩,tl⟩,pg,bk⟩ ⟨⟨some aq,cq⟩,ql⟩
 obtain⟨S,hS⟩ : ∃ S,Bt.pR ⟨nx,⟨⟨some a1,c1⟩,cl⟩,⟨⟨some a2,c2⟩,tl⟩,pg,bk⟩ dE ⟨⟨some aq,cq⟩,ql⟩=S:=⟨_,rfl⟩
 have e1:(aT S)[270]? = some (.slice (some a1) cl.length c1):=by rw[← hS];kernel_rfl
 have e2:(aT S)[272]? = some (.slice (some a2) tl.length c2):=by rw[← hS];kernel_rfl
 have e3:(aT S)[273]? = some (.slice (some aq) ql.length cq):=by rw[← hS];kernel_rfl
 rw[hS] at hO ⊢
 have n1:=hO.nil 271 rfl
 have n2:=hO.nil 307 rfl
 refine az.cr ae 1 (ι:=Hd×Hd×Hd) (fun x=>x.1.Ok cl.length∧x.2.1.Ok tl.length∧x.2.2.Ok ql.length) (fun _=>kZ b2 b3) (fun _=>[])
  (fun x=>⟨fun w=>((D w∧ai w x.1.a (cl.flatMap bx))∧ai w x.2.1.a (tl.flatMap cu))∧ai w x.2.2.a (ql.map bH),[(b2,Row.c Z),(b3,Row.c (aT { S with cp:=⟨x.1,cl⟩,ti:=⟨x.2.1,tl⟩,qu:=⟨x.2.2,ql⟩ }))]⟩) ?_ ?_
 · conv=>whnf
   refine az.draw ae mixed rfl rfl ?_
   conv=>whnf
   repeat' (first
    | (refine cj.same rfl ?_;conv=>whnf)
    | (refine cj.call rfl ?_;conv=>whnf)
    | (refine ak.aH ae rfl rfl (ad:=⟨b3,0,none⟩) (k:=270) (L:=aT S) (v:=.slice (some a1) cl.length c1) (aK.row (by simp[Fx.and])) (fun _=>rfl) e1 ?_;conv=>whnf)
    | (refine ak.aH ae rfl rfl (ad:=⟨b3,0,none⟩) (k:=271) (L:=aT S) (v:=.slice none 0 0) (aK.row (by simp[Fx.and])) (fun _=>rfl) n1 ?_;conv=>whnf)
    | (refine ak.aH ae rfl rfl (ad:=⟨b3,0,none⟩) (k:=272) (L:=aT S) (v:=.slice (some a2) tl.length c2) (aK.row (by simp[Fx.and])) (fun _=>rfl) e2 ?_;conv=>whnf)
    | (refine ak.aH ae rfl rfl (ad:=⟨b3,0,none⟩) (k:=273) (L:=aT S) (v:=.slice (some aq) ql.length cq) (aK.row (by simp[Fx.and])) (fun _=>rfl) e3 ?_;conv=>whnf)
    | (refine ak.aH ae rfl rfl (ad:=⟨b3,0,none⟩) (k:=307) (L:=aT S) (v:=.slice none 0 0) (aK.row (by simp[Fx.and])) (fun _=>rfl) n2 ?_;conv=>whnf)
    | (refine aw.pure (sH a1 cl.length c1 (cl.flatMap bx) (gX (z:=6) (fun _=>rfl) ..) (by omega)) (fun w hw=>(hD w hw).1) (fun v G hv=>?_);obtain⟨k1,hk1,rfl,rfl⟩:=hv;conv=>whnf)
    | (refine aw.val ue (fun w hw=>trivial) (fun v G hv=>?_);subst hv;conv=>whnf)
    | (refine aw.pure (rK a2 tl.length c2 (tl.flatMap cu) (gX (z:=3) (fun _=>rfl) ..) (by omega)) (fun w hw=>(hD w hw.1).2.1) (fun v G hv=>?_);obtain⟨k2,hk2,rfl,rfl⟩:=hv;conv=>whnf)
    | (refine aw.pure (sN aq ql.length cq (ql.map bH) (by simp) (by omega)) (fun w hw=>(hD w hw.1.1).2.2) (fun v G hv=>?_);obtain⟨kq,hkq,rfl,rfl⟩:=hv;conv=>whnf)
    | (refine aw.val tW (fun w hw=>trivial) (fun v G hv=>?_);subst hv;conv=>whnf))
   have hgr:S.gr.v = .slice none 0 0:=by rw[← hS];rfl
   have hwi:S.wi.v = .slice none 0 0:=by rw[← hS];rfl
   refine aP.bZ (F':=⟨fun w=>((D w∧ai w k1.a (cl.flatMap bx))∧ai w k2.a (tl.flatMap cu))∧ai w kq.a (ql.map bH),[(b2,Row.c Z)] ++ [(b3,Row.c (aT S))] ++ []⟩) (ax.of_le ⟨by simp[Fx.and],fun w hw=>hw⟩) ?_
   refine aP.aX ae rfl (b:=b3) (k:=270) (X:=aT { S with cp:=⟨k1,cl⟩ }) rfl rfl (List.all_eq_true.1 (by rfl)) (by rw[ba];decide) (CP S rfl) ?_
   obtain⟨S1,hS1⟩ : ∃ S1:bW,S1={ S with cp:=⟨k1,cl⟩ }:=⟨_,rfl⟩
   have hgr1:S1.gr.v = .slice none 0 0:=by rw[hS1];exact hgr
   rw[← hS1]
   obtain⟨S2,hS2⟩ : ∃ S2:bW,S2={ S1 with ti:=⟨k2,tl⟩ }:=⟨_,rfl⟩
   obtain⟨S3,hS3⟩ : ∃ S3:bW,S3={ S2 with qu:=⟨kq,ql⟩ }:=⟨_,rfl⟩
   have hwi3:S3.wi.v = .slice none 0 0:=by rw[hS3,hS2,hS1];exact hwi
   have q1:=cP ((B_ S1).trans (congrArg some hgr1))
   have q2:laid (aT S1) 272 [k2.v tl.length]=aT S2:=by rw[hS2];exact Cv S1 rfl
   have q3:laid (aT S2) 273 [kq.v ql.length]=aT S3:=by rw[hS3];exact sY S2 rfl
   have q4:=cP ((B8 S3).trans (congrArg some hwi3))
   have m1:(aT S1).length=376:=ba _
   have m2:(aT S2).length=376:=ba _
   have m3:(aT S3).length=376:=ba _
   have hS3':aT S3=aT { S with cp:=⟨k1,cl⟩,ti:=⟨k2,tl⟩,qu:=⟨kq,ql⟩ }:=by rw[hS3,hS2,hS1]
   obtain⟨O1,hO1⟩ : ∃ O1,aT S1=O1:=⟨_,rfl⟩
   obtain⟨O2,hO2⟩ : ∃ O2,aT S2=O2:=⟨_,rfl⟩
   obtain⟨O3,hO3⟩ : ∃ O3,aT S3=O3:=⟨_,rfl⟩
   rw[hO1] at q1 q2 m1 ⊢
   rw[hO2] at q2 q3 m2
   rw[hO3] at q3 q4 m3 hS3'
   repeat' (first
    | (refine aP.aX ae rfl (b:=b3) (k:=271) (C:=O1) (X:=O1) rfl rfl (List.all_eq_true.1 (by rfl)) (by rw[m1];decide) q1 ?_;conv=>whnf)
    | (refine aP.aX ae rfl (b:=b3) (k:=272) (C:=O1) (X:=O2) rfl rfl (List.all_eq_true.1 (by rfl)) (by rw[m1];decide) q2 ?_;conv=>whnf)
    | (refine aP.aX ae rfl (b:=b3) (k:=273) (C:=O2) (X:=O3) rfl rfl (List.all_eq_true.1 (by rfl)) (by rw[m2];decide) q3 ?_;conv=>whnf)
    | (refine aP.aX ae rfl (b:=b3) (k:=307) (C:=O3) (X:=O3) rfl rfl (List.all_eq_true.1 (by rfl)) (by rw[m3];decide) q4 ?_;conv=>whnf))
   all_goals
    refine⟨(k1,k2,kq),⟨hk1,hk2,hkq⟩,[],⟨by decide,by simp,rfl⟩,?_,ax.of_le ⟨by dsimp only;rw[← hS3'];exact List.Sublist.refl _,fun w hw=>hw⟩⟩
    repeat (first | exact au.nil | refine au.any ?_ | refine au.cons ?_)
 · intro x hx bs' hbs'
   obtain⟨k1,k2,kq⟩:=x
   obtain⟨g1,g2,g3⟩:=hx
   obtain rfl:=List.eq_nil_of_length_eq_zero hbs'
   rw[aS,← hS]
   exact hN k1 k2 kq g1 g2 g3
end
end Go.Proofs.YtlnhdpjnlffaoaaGreatDoor
