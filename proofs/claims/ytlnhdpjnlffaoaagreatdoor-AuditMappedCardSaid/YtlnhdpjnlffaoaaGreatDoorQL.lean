/- Parts of the proof: AdQ, AdR, AdS, AdT. -/
import Derived.Test.YtlnhdpjnlffaoaaGreatDoorQH
import Derived.Test.YtlnhdpjnlffaoaaGreatDoorQJ
import Derived.Test.YtlnhdpjnlffaoaaGreatDoorQK
import Derived.Test.YtlnhdpjnlffaoaaGreatDoorRows
import Derived.SizedLaws
import Derived.OpenShut
namespace Go.Proofs.YtlnhdpjnlffaoaaGreatDoor
open Go Go.Sx Go.ChangeShapes Go.WideShapes
set_option maxRecDepth 100000
set_option maxHeartbeats 2000000
set_option linter.unusedVariables false
set_option linter.unusedSimpArgs false
section
variable {H:Type} (enc:TypeId×Value→H) (w:World) (base:Nat) (spare:Nat→Bool) (held:Bool)
structure Op (t:TypeId) (n:Nat) {β:Type} (f:β→List Value) (good:β→Prop):Prop where
 cells:Tryz.prog.cellsOf t=n
 get : ∀ (m:Nat) (cs:List Value) (x:DataW H×List MemPlace),DataW.trod enc Tryz.prog w base spare held m t cs=some x→cs.length=n→(∀ k∈x.1.weights Tryz.prog t,k≤reachBytes)→∃ b:β,cs=f b∧good b
end
section
variable {H:Type} {enc:TypeId×Value→H} {w:World} {base:Nat} {spare:Nat→Bool} {held:Bool}
theorem n5 {α:Type} {cs:List α} (h:cs.length=1) : ∃ v,cs = [v]:=by
 rcases cs with _ | ⟨v,_ | ⟨u,r⟩⟩<;>simp at h
 exact⟨v,rfl⟩
def iC (z:Int):List Value:=[.int .i64 z]
def bC (z:Bool):List Value:=[.bool z]
def uC (z:Nat):List Value:=[.int .u8 z]
def jz {β:Type} (s:Sl β):List Value:=[s.v]
def zh (x:Bs):List Value:=[de x]
def uR {β:Type} (n:Nat) (f:β→List Value) (g:Nat→β):List Value:=(List.range n).flatMap fun i=>f (g i)
theorem a7:Op enc w base spare held 3 1 iC fun _=>True:=by
 refine⟨aV ae (t:=3) rfl,fun m cs x h hl _=>?_⟩
 obtain⟨v,rfl⟩:=n5 hl
 obtain⟨z,h1,_,hw⟩:=DataW.trod_int Tryz.underlying3 h
 cases h1
 exact⟨z,rfl,trivial⟩
theorem dF:Op enc w base spare held 4 1 bC fun _=>True:=by
 refine⟨aV ae (t:=4) rfl,fun m cs x h hl _=>?_⟩
 obtain⟨v,rfl⟩:=n5 hl
 obtain⟨z,h1,_⟩:=DataW.trod_bool Tryz.underlying4 h
 cases h1
 exact⟨z,rfl,trivial⟩
theorem zD:Op enc w base spare held 5 1 uC fun _=>True:=by
 refine⟨aV ae (t:=5) rfl,fun m cs x h hl _=>?_⟩
 obtain⟨v,rfl⟩:=n5 hl
 obtain⟨z,h1,_,hw⟩:=DataW.trod_int Tryz.underlying5 h
 cases h1
 have hb:=bounds_u8 hw
 refine⟨z.toNat,?_,trivial⟩
 unfold uC
 congr 2
 omega
theorem pC {P:Program} {t e:TypeId} {n sz:Nat} {v:Value} {x:DataW H×List MemPlace} (ht:P.underlying t=some (.slice e)) (hs:P.cellsOf e=sz) (hsz:0<sz)
 (h:DataW.trod enc P w base spare held n t [v]=some x) : ∃ (k:Hd) (L:List (List Value)),v=k.v L.length∧k.Ok L.length∧af w k.a L.flatten∧
  (∀ c∈L,c.length=sz∧∃ m y,DataW.trod enc P w base spare held m e c=some y∧∃ el sp,x.1 = .slice el sp∧y.1∈el)∧(L = []∨∃ el sp,x.1 = .slice el sp∧el.length=L.length):=by
 rcases DataW.trod_slice ht h with⟨h1,_⟩ | ⟨a,len,cap,elems,rest,m,_,h1,hx,_,hle,_,hel,hat,_,_⟩
 · cases h1
   exact⟨Hd.nil,[],rfl,Hd.mB,rfl,by simp,.inl rfl⟩
 · cases h1
   have hcell : ∀ i,i<len→∃ c:List Value,c.length=sz∧(∀ j,j<sz→w.cell? ((a.add (i*sz)).add j)=c[j]?)∧∃ m y,DataW.trod enc P w base spare held m e c=some y∧∃ el sp,x.1 = .slice el sp∧y.1∈el:=by
    intro i hi
    have h2:=hat i hi
    rw[hs,List.getElem?_eq_getElem (by omega)] at h2
    cases hcs:w.cells? base (a.add (i*sz)) sz with
    | none=>rw[hcs] at h2;cases h2
    | some cs=>
     rw[hcs] at h2
     obtain⟨_,h4,h3⟩:=World.cells?_some hcs
     exact⟨cs,h4,h3,m,_,h2,_,_,by rw[hx],List.mem_map.2 ⟨_,List.getElem_mem _,rfl⟩⟩
   obtain⟨L,hl,hp⟩:=lF len hcell
   have hlen : ∀ c∈L,c.length=sz:=fun c hc=>by
    obtain⟨i,hi,rfl⟩:=List.getElem_of_mem hc
    exact(hp i hi).1
   refine⟨⟨some a,cap⟩,L,by simp[Hd.v,hl],⟨by simp,by simpa [hl] using hle⟩,?_,fun c hc=>?_,.inr ⟨_,_,by rw[hx],by simp[hel,hl]⟩⟩
   · rcases Nat.eq_zero_or_pos len with h0 | h0
     · have:L = []:=List.eq_nil_of_length_eq_zero (by omega)
       subst this
       exact .inl rfl
     · have hl0:0<L.length:=by omega
       have c0:=(hp 0 hl0).2.1 0 hsz
       have z0:(a.add (0*sz)).add 0=a:=by simp[Addr.add]
       rw[z0,List.getElem?_eq_getElem (by rw[(hp 0 hl0).1];exact hsz)] at c0
       have hh:a.spot=none∧∃ arr e fz,w.heap[a.block]? = some (.cells arr e fz):=by
        unfold World.cell? at c0
        split at c0
        · rename_i c el fz hb
          split at c0
          · cases c0
          · rename_i hsp
            exact⟨by cases hq:a.spot<;>simp_all,c,el,fz,hb⟩
        · cases c0
       obtain⟨hsp,arr,el,fz,hb⟩:=hh
       refine .inr ⟨hsp,arr,el,fz,hb,fun j hj=>?_⟩
       rw[kn hlen] at hj
       have hq:j/sz<L.length:=(Nat.div_lt_iff_lt_mul hsz).2 hj
       have hr:j%sz<sz:=Nat.mod_lt _ hsz
       have e1:j/sz*sz+j%sz=j:=by rw[Nat.mul_comm];exact Nat.div_add_mod j sz
       have h5:=(hp _ hq).2.1 _ hr
       rw[Addr.cV hsp,e1] at h5
       have h6:=mq hlen hq hr
       rw[e1] at h6
       rw[h6,← h5]
       obtain⟨b,o,sp⟩:=a
       simp only at hsp hb
       subst hsp
       rw[Addr.bG]
       simp[World.cell?,hb]
   · obtain⟨i,hi,rfl⟩:=List.getElem_of_mem hc
     exact⟨(hp i hi).1,(hp i hi).2.2⟩
theorem eN {P:Program} {e:TypeId} : ∀ {l:List (DataW H)} {d:DataW H},d∈l→∀ k∈d.weights P e,k∈DataW.weightsAll P e l
 | d0::l,d,hd,k,hk=>by
  rcases List.mem_cons.1 hd with rfl | h
  · unfold DataW.weightsAll
    exact List.mem_append.2 (.inl hk)
  · unfold DataW.weightsAll
    exact List.mem_append.2 (.inr (eN h k hk))
structure jx {β:Type} (w:World) (f:β→List Value) (bz:Nat) (good:β→Prop) (s:Sl β):Prop where
 h:s.h.Ok s.l.length
 sz:s.l.length*bz≤140737488351232
 row:af w s.h.a (s.l.flatMap f)
 all : ∀ b∈s.l,good b
theorem jx.ok {β:Type} {f:β→List Value} {bz:Nat} {good:β→Prop} {s:Sl β} (h:jx w f bz good s) (hb:0<bz):s.Ok:=by
 refine⟨h.h,?_⟩
 have:=h.sz
 have:s.l.length*1≤s.l.length*bz:=Nat.mul_le_mul_left _ hb
 omega
theorem cz {t e:TypeId} {sz bz:Nat} {β:Type} {f:β→List Value} {good:β→Prop} (ht:Tryz.prog.underlying t=some (.slice e)) (hc:Tryz.prog.cellsOf t=1) (hbz:Tryz.prog.bytesOf e=bz) (hsz:0<sz) (he:Op enc w base spare held e sz f good) :
 Op enc w base spare held t 1 (jz (β:=β)) (jx w f bz good):=by
 refine⟨hc,fun m cs x h hl hw=>?_⟩
 obtain⟨v,rfl⟩:=n5 hl
 obtain⟨k,L,rfl,hk,hr,hcl,hsl⟩:=pC ht he.cells hsz h
 have hwl:L.length*bz≤140737488351232:=by
  rcases hsl with rfl | ⟨el,sp,h1,h2⟩
  · simp
  rw[h1] at hw
  have:=hw ((el.length+sp.length)*Tryz.prog.bytesOf e) (by
   unfold DataW.weights
   rw[ht]
   exact List.mem_cons_self ..)
  rw[hbz] at this
  unfold reachBytes at this
  have h3:L.length*bz≤(el.length+sp.length)*bz:=Nat.mul_le_mul_right _ (by omega)
  omega
 obtain⟨l,rfl,hg⟩:=s3 (f:=f) (good:=good) (L:=L) fun c hcm=>by
  obtain⟨h1,m,y,h2,el,sp,h3,h4⟩:=hcl c hcm
  refine he.get m c y h2 h1 fun k hk=>hw k ?_
  rw[h3]
  unfold DataW.weights
  rw[ht]
  exact List.mem_cons_of_mem _ (List.mem_append.2 (.inl (eN h4 k hk)))
 rw[List.length_map] at hwl hk
 refine⟨⟨k,l⟩,?_,hk,hwl,?_,hg⟩
 · unfold jz Sl.v
   rw[List.length_map]
 · show af w k.a (l.flatMap f)
   rw[List.flatMap_def]
   exact hr
theorem fp {t e:TypeId} {n sz:Nat} {β:Type} [Inhabited β] {f:β→List Value} {good:β→Prop} (ht:Tryz.prog.underlying t=some (.array n e)) (hc:Tryz.prog.cellsOf t=n*sz) (he:Op enc w base spare held e sz f good) :
 Op enc w base spare held t (n*sz) (uR n f) fun g=>∀ i,i<n→good (g i):=by
 refine⟨hc,fun m cs x h hl hw=>?_⟩
 obtain⟨xs,m',_,hx,_,hxl,hel⟩:=DataW.trod_array ht h
 have hel' : ∀ i,i<n→∃ b:β,(cs.drop (i*sz)).take sz=f b∧good b:=fun i hi=>by
  have h1:=hel i hi
  rw[he.cells,List.getElem?_eq_getElem (by omega)] at h1
  refine he.get _ _ _ h1 (by
   have:(i+1)*sz≤n*sz:=Nat.mul_le_mul_right _ hi
   rw[Nat.succ_mul] at this
   rw[List.length_take,List.length_drop]
   omega) fun k hk=>hw k ?_
  rw[hx]
  unfold DataW.weights
  rw[ht]
  exact eN (List.mem_map.2 ⟨_,List.getElem_mem _,rfl⟩) k hk
 obtain⟨l,hll,hp⟩:=lF n hel'
 have hg : ∀ i (h:i<l.length),l[i]! = l[i]:=fun i h=>by simp[h]
 refine⟨fun i=>l[i]!,?_,fun i hi=>by dsimp only;rw[hg i (by omega)];exact(hp i (by omega)).2⟩
 have key : ∀ j,j≤n→cs.take (j*sz)=(List.range j).flatMap fun i=>f l[i]!:=by
  intro j
  induction j with
  | zero=>intro _;simp
  | succ j ih=>
   intro hj
   rw[List.range_succ,List.flatMap_append,← ih (by omega),Nat.succ_mul,List.take_add]
   congr 1
   rw[(hp j (by omega)).1,← hg j (by omega)]
   simp
 have:=key n (Nat.le_refl _)
 rw[List.take_of_length_le (by omega)] at this
 exact this
theorem aB {t u:TypeId} {fs:Array Field} {m o n:Nat} {cs:List Value} {x:DataW H×List MemPlace} {β:Type} {f:β→List Value} {good:β→Prop} (ht:Tryz.prog.underlying t=some (.struct fs)) (h:DataW.trod enc Tryz.prog w base spare held m t cs=some x) (hw : ∀ k∈x.1.weights Tryz.prog t,k≤reachBytes)
 (i:Nat) (hf:(fs[i]?).map (fun f=>(f.type,f.offset))=some (u,o)) (he:Op enc w base spare held u n f good) (hl:o+n≤cs.length) : ∃ b:β,(cs.drop o).take n=f b∧good b:=by
 obtain⟨xs,m',_,hx,_,hxl,hel⟩:=DataW.trod_struct ht h
 cases hg:fs[i]? with
 | none=>rw[hg] at hf;cases hf
 | some fd=>
  rw[hg] at hf
  have hi:i<fs.size:=(Array.getElem?_eq_some_iff.1 hg).1
  have h1:=hel i fd hg
  cases hf
  rw[he.cells,List.getElem?_eq_getElem (by omega)] at h1
  refine he.get _ _ _ h1 (by rw[List.length_take,List.length_drop];omega) fun k hk=>hw k ?_
  rw[hx]
  unfold DataW.weights
  rw[ht]
  refine DataW.weights_mem_each (j:=i) (t:=fd.type) (d:=xs[i].1) ?_ ?_ k hk
  · rw[List.getElem?_map]
    have:fs.toList[i]? = some fd:=by rw[Array.getElem?_toList];exact hg
    rw[this]
    rfl
  · rw[List.getElem?_map,List.getElem?_eq_getElem (by omega)]
    rfl
theorem chain {cs a r:List Value} {o n:Nat} (h:(cs.drop o).take n=a) (k:cs.drop (o+n)=r):cs.drop o=a++r:=by
 rw[← h,← k,← List.drop_drop,List.take_append_drop]
end
end Go.Proofs.YtlnhdpjnlffaoaaGreatDoor
namespace Go.Proofs.YtlnhdpjnlffaoaaGreatDoor
open Go Go.Sx Go.ChangeShapes Go.WideShapes
set_option maxRecDepth 100000
set_option maxHeartbeats 2000000
set_option linter.unusedVariables false
set_option linter.unusedSimpArgs false
section
variable {H:Type} {enc:TypeId×Value→H} {w:World} {base:Nat} {spare:Nat→Bool} {held:Bool}
theorem zo (l:List Bs):l.flatMap zh=l.map de:=by
 induction l with
 | nil=>rfl
 | cons x l ih=>rw[List.flatMap_cons,ih,List.map_cons];rfl
theorem zp (l:List Int):l.flatMap iC=l.map bL:=by
 induction l with
 | nil=>rfl
 | cons x l ih=>rw[List.flatMap_cons,ih,List.map_cons];rfl
theorem cZ:Op enc w base spare held 22 1 zh fun x=>x.n≤140737488351232:=by
 have h:=cz (enc:=enc) (w:=w) (base:=base) (spare:=spare) (held:=held) (t:=22) (bz:=1) Tryz.underlying22 (by kernel_rfl) (by kernel_rfl) (by decide) zD
 refine⟨h.cells,fun m cs x h1 h2 h3=>?_⟩
 obtain⟨s,rfl,hs⟩:=h.get m cs x h1 h2 h3
 exact⟨⟨s.h,s.l.length⟩,rfl,by have:=hs.sz;show s.l.length≤140737488351232;omega⟩
theorem xb:Op enc w base spare held 24 8 (β:=gn) (eP) (fun x=>x.data.n≤140737488351232):=by
 refine⟨aV ae (t:=24) rfl,fun m cs x h hl hw=>?_⟩
 obtain⟨b0,e0,g0⟩:=aB (o:=0) (n:=1) Tryz.underlying24 h hw 0 rfl a7 (by omega)
 obtain⟨b1,e1,g1⟩:=aB (o:=1) (n:=1) Tryz.underlying24 h hw 1 rfl a7 (by omega)
 obtain⟨b2,e2,g2⟩:=aB (o:=2) (n:=1) Tryz.underlying24 h hw 2 rfl a7 (by omega)
 obtain⟨b3,e3,g3⟩:=aB (o:=3) (n:=1) Tryz.underlying24 h hw 3 rfl dF (by omega)
 obtain⟨b4,e4,g4⟩:=aB (o:=4) (n:=1) Tryz.underlying24 h hw 4 rfl dF (by omega)
 obtain⟨b5,e5,g5⟩:=aB (o:=5) (n:=1) Tryz.underlying24 h hw 5 rfl dF (by omega)
 obtain⟨b6,e6,g6⟩:=aB (o:=6) (n:=1) Tryz.underlying24 h hw 6 rfl a7 (by omega)
 obtain⟨b7,e7,g7⟩:=aB (o:=7) (n:=1) Tryz.underlying24 h hw 7 rfl cZ (by omega)
 exact⟨⟨b0,b1,b2,b3,b4,b5,b6,b7⟩,(List.drop_zero (l:=cs)).symm.trans (chain e0 (chain e1 (chain e2 (chain e3 (chain e4 (chain e5 (chain e6 (chain e7 (List.drop_eq_nil_of_le (by omega)))))))))),g7⟩
theorem xS:Op enc w base spare held 204 (4*1) (uR 4 iC) fun g=>∀ i,i<4→True:=fp Tryz.underlying204 (by kernel_rfl) a7
theorem wX:Op enc w base spare held 138 (3*1) (uR 3 iC) fun g=>∀ i,i<3→True:=fp Tryz.underlying138 (by kernel_rfl) a7
theorem yw:Op enc w base spare held 206 9 (β:=Mg) (nB) (fun _=>True):=by
 refine⟨aV ae (t:=206) rfl,fun m cs x h hl hw=>?_⟩
 obtain⟨b0,e0,g0⟩:=aB (o:=0) (n:=1) Tryz.underlying206 h hw 0 rfl a7 (by omega)
 obtain⟨b1,e1,g1⟩:=aB (o:=1) (n:=1) Tryz.underlying206 h hw 1 rfl a7 (by omega)
 obtain⟨b2,e2,g2⟩:=aB (o:=2) (n:=1) Tryz.underlying206 h hw 2 rfl a7 (by omega)
 obtain⟨b3,e3,g3⟩:=aB (o:=3) (n:=1) Tryz.underlying206 h hw 3 rfl a7 (by omega)
 obtain⟨b4,e4,g4⟩:=aB (o:=4) (n:=4) Tryz.underlying206 h hw 4 rfl xS (by omega)
 obtain⟨b5,e5,g5⟩:=aB (o:=8) (n:=1) Tryz.underlying206 h hw 5 rfl cZ (by omega)
 exact⟨⟨b0,b1,b2,b3,b4 0,b4 1,b4 2,b4 3,b5⟩,(List.drop_zero (l:=cs)).symm.trans (chain e0 (chain e1 (chain e2 (chain e3 (chain e4 (chain e5 (List.drop_eq_nil_of_le (by omega)))))))),trivial⟩
theorem xy:Op enc w base spare held 154 3 (β:=Pr) (bW) (fun _=>True):=by
 refine⟨aV ae (t:=154) rfl,fun m cs x h hl hw=>?_⟩
 obtain⟨b0,e0,g0⟩:=aB (o:=0) (n:=1) Tryz.underlying154 h hw 0 rfl a7 (by omega)
 obtain⟨b1,e1,g1⟩:=aB (o:=1) (n:=1) Tryz.underlying154 h hw 1 rfl a7 (by omega)
 obtain⟨b2,e2,g2⟩:=aB (o:=2) (n:=1) Tryz.underlying154 h hw 2 rfl a7 (by omega)
 exact⟨⟨b0,b1,b2⟩,(List.drop_zero (l:=cs)).symm.trans (chain e0 (chain e1 (chain e2 (List.drop_eq_nil_of_le (by omega))))),trivial⟩
theorem vi:Op enc w base spare held 156 3 (β:=Rt) (uO) (fun _=>True):=by
 refine⟨aV ae (t:=156) rfl,fun m cs x h hl hw=>?_⟩
 obtain⟨b0,e0,g0⟩:=aB (o:=0) (n:=1) Tryz.underlying156 h hw 0 rfl a7 (by omega)
 obtain⟨b1,e1,g1⟩:=aB (o:=1) (n:=1) Tryz.underlying156 h hw 1 rfl a7 (by omega)
 obtain⟨b2,e2,g2⟩:=aB (o:=2) (n:=1) Tryz.underlying156 h hw 2 rfl a7 (by omega)
 exact⟨⟨b0,b1,b2⟩,(List.drop_zero (l:=cs)).symm.trans (chain e0 (chain e1 (chain e2 (List.drop_eq_nil_of_le (by omega))))),trivial⟩
theorem yW:Op enc w base spare held 158 6 (β:=Cp) (bB) (fun _=>True):=by
 refine⟨aV ae (t:=158) rfl,fun m cs x h hl hw=>?_⟩
 obtain⟨b0,e0,g0⟩:=aB (o:=0) (n:=1) Tryz.underlying158 h hw 0 rfl a7 (by omega)
 obtain⟨b1,e1,g1⟩:=aB (o:=1) (n:=1) Tryz.underlying158 h hw 1 rfl a7 (by omega)
 obtain⟨b2,e2,g2⟩:=aB (o:=2) (n:=1) Tryz.underlying158 h hw 2 rfl a7 (by omega)
 obtain⟨b3,e3,g3⟩:=aB (o:=3) (n:=3) Tryz.underlying158 h hw 3 rfl vi (by omega)
 exact⟨⟨b0,b1,b2,b3⟩,(List.drop_zero (l:=cs)).symm.trans (chain e0 (chain e1 (chain e2 (chain e3 (List.drop_eq_nil_of_le (by omega)))))),trivial⟩
theorem uY:Op enc w base spare held 164 4 (β:=Gr) (b_) (fun _=>True):=by
 refine⟨aV ae (t:=164) rfl,fun m cs x h hl hw=>?_⟩
 obtain⟨b0,e0,g0⟩:=aB (o:=0) (n:=1) Tryz.underlying164 h hw 0 rfl a7 (by omega)
 obtain⟨b1,e1,g1⟩:=aB (o:=1) (n:=1) Tryz.underlying164 h hw 1 rfl a7 (by omega)
 obtain⟨b2,e2,g2⟩:=aB (o:=2) (n:=1) Tryz.underlying164 h hw 2 rfl a7 (by omega)
 obtain⟨b3,e3,g3⟩:=aB (o:=3) (n:=1) Tryz.underlying164 h hw 3 rfl a7 (by omega)
 exact⟨⟨b0,b1,b2,b3⟩,(List.drop_zero (l:=cs)).symm.trans (chain e0 (chain e1 (chain e2 (chain e3 (List.drop_eq_nil_of_le (by omega)))))),trivial⟩
theorem wu:Op enc w base spare held 167 3 (β:=Ti) (cj) (fun _=>True):=by
 refine⟨aV ae (t:=167) rfl,fun m cs x h hl hw=>?_⟩
 obtain⟨b0,e0,g0⟩:=aB (o:=0) (n:=1) Tryz.underlying167 h hw 0 rfl a7 (by omega)
 obtain⟨b1,e1,g1⟩:=aB (o:=1) (n:=1) Tryz.underlying167 h hw 1 rfl a7 (by omega)
 obtain⟨b2,e2,g2⟩:=aB (o:=2) (n:=1) Tryz.underlying167 h hw 2 rfl a7 (by omega)
 exact⟨⟨b0,b1,b2⟩,(List.drop_zero (l:=cs)).symm.trans (chain e0 (chain e1 (chain e2 (List.drop_eq_nil_of_le (by omega))))),trivial⟩
theorem xU:Op enc w base spare held 135 3 (β:=Se) (bx) (fun _=>True):=by
 refine⟨aV ae (t:=135) rfl,fun m cs x h hl hw=>?_⟩
 obtain⟨b0,e0,g0⟩:=aB (o:=0) (n:=1) Tryz.underlying135 h hw 0 rfl a7 (by omega)
 obtain⟨b1,e1,g1⟩:=aB (o:=1) (n:=1) Tryz.underlying135 h hw 1 rfl a7 (by omega)
 obtain⟨b2,e2,g2⟩:=aB (o:=2) (n:=1) Tryz.underlying135 h hw 2 rfl dF (by omega)
 exact⟨⟨b0,b1,b2⟩,(List.drop_zero (l:=cs)).symm.trans (chain e0 (chain e1 (chain e2 (List.drop_eq_nil_of_le (by omega))))),trivial⟩
theorem tV:Op enc w base spare held 133 4 (β:=pM) (bc) (fun _=>True):=by
 refine⟨aV ae (t:=133) rfl,fun m cs x h hl hw=>?_⟩
 obtain⟨b0,e0,g0⟩:=aB (o:=0) (n:=1) Tryz.underlying133 h hw 0 rfl a7 (by omega)
 obtain⟨b1,e1,g1⟩:=aB (o:=1) (n:=1) Tryz.underlying133 h hw 1 rfl a7 (by omega)
 obtain⟨b2,e2,g2⟩:=aB (o:=2) (n:=1) Tryz.underlying133 h hw 2 rfl a7 (by omega)
 obtain⟨b3,e3,g3⟩:=aB (o:=3) (n:=1) Tryz.underlying133 h hw 3 rfl dF (by omega)
 exact⟨⟨b0,b1,b2,b3⟩,(List.drop_zero (l:=cs)).symm.trans (chain e0 (chain e1 (chain e2 (chain e3 (List.drop_eq_nil_of_le (by omega)))))),trivial⟩
theorem tN:Op enc w base spare held 174 2 (β:=yb) (bV) (fun _=>True):=by
 refine⟨aV ae (t:=174) rfl,fun m cs x h hl hw=>?_⟩
 obtain⟨b0,e0,g0⟩:=aB (o:=0) (n:=1) Tryz.underlying174 h hw 0 rfl a7 (by omega)
 obtain⟨b1,e1,g1⟩:=aB (o:=1) (n:=1) Tryz.underlying174 h hw 1 rfl cZ (by omega)
 exact⟨⟨b0,b1⟩,(List.drop_zero (l:=cs)).symm.trans (chain e0 (chain e1 (List.drop_eq_nil_of_le (by omega)))),trivial⟩
theorem wA:Op enc w base spare held 177 2 (β:=Al) (fu) (fun _=>True):=by
 refine⟨aV ae (t:=177) rfl,fun m cs x h hl hw=>?_⟩
 obtain⟨b0,e0,g0⟩:=aB (o:=0) (n:=1) Tryz.underlying177 h hw 0 rfl a7 (by omega)
 obtain⟨b1,e1,g1⟩:=aB (o:=1) (n:=1) Tryz.underlying177 h hw 1 rfl a7 (by omega)
 exact⟨⟨b0,b1⟩,(List.drop_zero (l:=cs)).symm.trans (chain e0 (chain e1 (List.drop_eq_nil_of_le (by omega)))),trivial⟩
theorem wZ:Op enc w base spare held 180 4 (β:=qc) (cM) (fun _=>True):=by
 refine⟨aV ae (t:=180) rfl,fun m cs x h hl hw=>?_⟩
 obtain⟨b0,e0,g0⟩:=aB (o:=0) (n:=1) Tryz.underlying180 h hw 0 rfl a7 (by omega)
 obtain⟨b1,e1,g1⟩:=aB (o:=1) (n:=1) Tryz.underlying180 h hw 1 rfl a7 (by omega)
 obtain⟨b2,e2,g2⟩:=aB (o:=2) (n:=1) Tryz.underlying180 h hw 2 rfl a7 (by omega)
 obtain⟨b3,e3,g3⟩:=aB (o:=3) (n:=1) Tryz.underlying180 h hw 3 rfl cZ (by omega)
 exact⟨⟨b0,b1,b2,b3⟩,(List.drop_zero (l:=cs)).symm.trans (chain e0 (chain e1 (chain e2 (chain e3 (List.drop_eq_nil_of_le (by omega)))))),trivial⟩
theorem vI:Op enc w base spare held 140 8 (β:=En) (xX) (fun _=>True):=by
 refine⟨aV ae (t:=140) rfl,fun m cs x h hl hw=>?_⟩
 obtain⟨b0,e0,g0⟩:=aB (o:=0) (n:=1) Tryz.underlying140 h hw 0 rfl a7 (by omega)
 obtain⟨b1,e1,g1⟩:=aB (o:=1) (n:=1) Tryz.underlying140 h hw 1 rfl a7 (by omega)
 obtain⟨b2,e2,g2⟩:=aB (o:=2) (n:=1) Tryz.underlying140 h hw 2 rfl a7 (by omega)
 obtain⟨b3,e3,g3⟩:=aB (o:=3) (n:=3) Tryz.underlying140 h hw 3 rfl wX (by omega)
 obtain⟨b4,e4,g4⟩:=aB (o:=6) (n:=1) Tryz.underlying140 h hw 4 rfl a7 (by omega)
 obtain⟨b5,e5,g5⟩:=aB (o:=7) (n:=1) Tryz.underlying140 h hw 5 rfl cZ (by omega)
 exact⟨⟨b0,b1,b2,b3 0,b3 1,b3 2,b4,b5⟩,(List.drop_zero (l:=cs)).symm.trans (chain e0 (chain e1 (chain e2 (chain e3 (chain e4 (chain e5 (List.drop_eq_nil_of_le (by omega)))))))),trivial⟩
theorem uB:Op enc w base spare held 222 6 (β:=Acc) (vW) (fun _=>True):=by
 refine⟨aV ae (t:=222) rfl,fun m cs x h hl hw=>?_⟩
 obtain⟨b0,e0,g0⟩:=aB (o:=0) (n:=1) Tryz.underlying222 h hw 0 rfl a7 (by omega)
 obtain⟨b1,e1,g1⟩:=aB (o:=1) (n:=1) Tryz.underlying222 h hw 1 rfl a7 (by omega)
 obtain⟨b2,e2,g2⟩:=aB (o:=2) (n:=1) Tryz.underlying222 h hw 2 rfl a7 (by omega)
 obtain⟨b3,e3,g3⟩:=aB (o:=3) (n:=1) Tryz.underlying222 h hw 3 rfl a7 (by omega)
 obtain⟨b4,e4,g4⟩:=aB (o:=4) (n:=1) Tryz.underlying222 h hw 4 rfl a7 (by omega)
 obtain⟨b5,e5,g5⟩:=aB (o:=5) (n:=1) Tryz.underlying222 h hw 5 rfl dF (by omega)
 exact⟨⟨b0,b1,b2,b3,b4,b5⟩,(List.drop_zero (l:=cs)).symm.trans (chain e0 (chain e1 (chain e2 (chain e3 (chain e4 (chain e5 (List.drop_eq_nil_of_le (by omega)))))))),trivial⟩
theorem xk:Op enc w base spare held 171 3 (β:=zg) (aR) (fun _=>True):=by
 refine⟨aV ae (t:=171) rfl,fun m cs x h hl hw=>?_⟩
 obtain⟨b0,e0,g0⟩:=aB (o:=0) (n:=1) Tryz.underlying171 h hw 0 rfl a7 (by omega)
 obtain⟨b1,e1,g1⟩:=aB (o:=1) (n:=1) Tryz.underlying171 h hw 1 rfl a7 (by omega)
 obtain⟨b2,e2,g2⟩:=aB (o:=2) (n:=1) Tryz.underlying171 h hw 2 rfl a7 (by omega)
 exact⟨⟨b0,b1,b2⟩,(List.drop_zero (l:=cs)).symm.trans (chain e0 (chain e1 (chain e2 (List.drop_eq_nil_of_le (by omega))))),trivial⟩
theorem yl:Op enc w base spare held 49 4 (β:=Int×Int×Int×Bs) (fun x=>[.int .i64 x.1,.int .i64 x.2.1,.int .i64 x.2.2.1,de x.2.2.2]) (fun _=>True):=by
 refine⟨aV ae (t:=49) rfl,fun m cs x h hl hw=>?_⟩
 obtain⟨b0,e0,g0⟩:=aB (o:=0) (n:=1) Tryz.underlying49 h hw 0 rfl a7 (by omega)
 obtain⟨b1,e1,g1⟩:=aB (o:=1) (n:=1) Tryz.underlying49 h hw 1 rfl a7 (by omega)
 obtain⟨b2,e2,g2⟩:=aB (o:=2) (n:=1) Tryz.underlying49 h hw 2 rfl a7 (by omega)
 obtain⟨b3,e3,g3⟩:=aB (o:=3) (n:=1) Tryz.underlying49 h hw 3 rfl cZ (by omega)
 exact⟨⟨b0,b1,b2,b3⟩,(List.drop_zero (l:=cs)).symm.trans (chain e0 (chain e1 (chain e2 (chain e3 (List.drop_eq_nil_of_le (by omega)))))),trivial⟩
theorem yL:Op enc w base spare held 51 3 (β:=Int×Int×Bs) (fun x=>[.int .i64 x.1,.int .i64 x.2.1,de x.2.2]) (fun _=>True):=by
 refine⟨aV ae (t:=51) rfl,fun m cs x h hl hw=>?_⟩
 obtain⟨b0,e0,g0⟩:=aB (o:=0) (n:=1) Tryz.underlying51 h hw 0 rfl a7 (by omega)
 obtain⟨b1,e1,g1⟩:=aB (o:=1) (n:=1) Tryz.underlying51 h hw 1 rfl a7 (by omega)
 obtain⟨b2,e2,g2⟩:=aB (o:=2) (n:=1) Tryz.underlying51 h hw 2 rfl cZ (by omega)
 exact⟨⟨b0,b1,b2⟩,(List.drop_zero (l:=cs)).symm.trans (chain e0 (chain e1 (chain e2 (List.drop_eq_nil_of_le (by omega))))),trivial⟩
theorem iZ:Op enc w base spare held 53 9 (β:=pB) (cG) (fun _=>True):=by
 refine⟨aV ae (t:=53) rfl,fun m cs x h hl hw=>?_⟩
 obtain⟨b0,e0,g0⟩:=aB (o:=0) (n:=1) Tryz.underlying53 h hw 0 rfl dF (by omega)
 obtain⟨b1,e1,g1⟩:=aB (o:=1) (n:=4) Tryz.underlying53 h hw 1 rfl yl (by omega)
 obtain⟨b2,e2,g2⟩:=aB (o:=5) (n:=1) Tryz.underlying53 h hw 2 rfl a7 (by omega)
 obtain⟨b3,e3,g3⟩:=aB (o:=6) (n:=3) Tryz.underlying53 h hw 3 rfl yL (by omega)
 exact⟨⟨b0,b1.1,b1.2.1,b1.2.2.1,b1.2.2.2.h,b1.2.2.2.n,b2,b3.1,b3.2.1,b3.2.2.h,b3.2.2.n⟩,(List.drop_zero (l:=cs)).symm.trans (chain e0 (chain e1 (chain e2 (chain e3 (List.drop_eq_nil_of_le (by omega)))))),trivial⟩
theorem xl:Op enc w base spare held 27 1 (jz (β:=Mg)) (jx w nB 88 (fun _=>True)):=
 cz (t:=27) Tryz.underlying27 (by kernel_rfl) (by kernel_rfl) (by decide) yw
theorem v8:Op enc w base spare held 28 1 (jz (β:=Pr)) (jx w bW 24 (fun _=>True)):=
 cz (t:=28) Tryz.underlying28 (by kernel_rfl) (by kernel_rfl) (by decide) xy
theorem xj:Op enc w base spare held 31 1 (jz (β:=Cp)) (jx w bB 48 (fun _=>True)):=
 cz (t:=31) Tryz.underlying31 (by kernel_rfl) (by kernel_rfl) (by decide) yW
theorem uD:Op enc w base spare held 35 1 (jz (β:=Gr)) (jx w b_ 32 (fun _=>True)):=
 cz (t:=35) Tryz.underlying35 (by kernel_rfl) (by kernel_rfl) (by decide) uY
theorem tP:Op enc w base spare held 37 1 (jz (β:=Ti)) (jx w cj 24 (fun _=>True)):=
 cz (t:=37) Tryz.underlying37 (by kernel_rfl) (by kernel_rfl) (by decide) wu
theorem vm:Op enc w base spare held 39 1 (jz (β:=Int)) (jx w iC 8 (fun _=>True)):=
 cz (t:=39) Tryz.underlying39 (by kernel_rfl) (by kernel_rfl) (by decide) a7
theorem mw:Op enc w base spare held 40 1 (jz (β:=Bs)) (jx w zh 24 (fun x=>x.n≤140737488351232)):=
 cz (t:=40) Tryz.underlying40 (by kernel_rfl) (by kernel_rfl) (by decide) cZ
theorem vZ:Op enc w base spare held 44 1 (jz (β:=Se)) (jx w bx 24 (fun _=>True)):=
 cz (t:=44) Tryz.underlying44 (by kernel_rfl) (by kernel_rfl) (by decide) xU
theorem sj:Op enc w base spare held 47 1 (jz (β:=pM)) (jx w bc 32 (fun _=>True)):=
 cz (t:=47) Tryz.underlying47 (by kernel_rfl) (by kernel_rfl) (by decide) tV
theorem sI:Op enc w base spare held 58 1 (jz (β:=yb)) (jx w bV 32 (fun _=>True)):=
 cz (t:=58) Tryz.underlying58 (by kernel_rfl) (by kernel_rfl) (by decide) tN
theorem uK:Op enc w base spare held 63 1 (jz (β:=Al)) (jx w fu 16 (fun _=>True)):=
 cz (t:=63) Tryz.underlying63 (by kernel_rfl) (by kernel_rfl) (by decide) wA
theorem vX:Op enc w base spare held 67 1 (jz (β:=qc)) (jx w cM 48 (fun _=>True)):=
 cz (t:=67) Tryz.underlying67 (by kernel_rfl) (by kernel_rfl) (by decide) wZ
theorem rh:Op enc w base spare held 70 1 (jz (β:=En)) (jx w xX 80 (fun _=>True)):=
 cz (t:=70) Tryz.underlying70 (by kernel_rfl) (by kernel_rfl) (by decide) vI
theorem pf:Op enc w base spare held 71 1 (jz (β:=Acc)) (jx w vW 48 (fun _=>True)):=
 cz (t:=71) Tryz.underlying71 (by kernel_rfl) (by kernel_rfl) (by decide) uB
theorem vP:Op enc w base spare held 72 1 (jz (β:=zg)) (jx w aR 24 (fun _=>True)):=
 cz (t:=72) Tryz.underlying72 (by kernel_rfl) (by kernel_rfl) (by decide) xk
theorem wa:Op enc w base spare held 30 2 (β:=Sl Mg×Sl Pr) (fun x=>[x.1.v,x.2.v]) (fun x=>jx w nB 88 (fun _=>True) x.1∧jx w bW 24 (fun _=>True) x.2):=by
 refine⟨aV ae (t:=30) rfl,fun m cs x h hl hw=>?_⟩
 obtain⟨b0,e0,g0⟩:=aB (o:=0) (n:=1) Tryz.underlying30 h hw 0 rfl xl (by omega)
 obtain⟨b1,e1,g1⟩:=aB (o:=1) (n:=1) Tryz.underlying30 h hw 1 rfl v8 (by omega)
 exact⟨⟨b0,b1⟩,(List.drop_zero (l:=cs)).symm.trans (chain e0 (chain e1 (List.drop_eq_nil_of_le (by omega)))),g0,g1⟩
theorem xN:Op enc w base spare held 33 2 (β:=Int×Sl Cp) (fun x=>[.int .i64 x.1,x.2.v]) (fun x=>jx w bB 48 (fun _=>True) x.2):=by
 refine⟨aV ae (t:=33) rfl,fun m cs x h hl hw=>?_⟩
 obtain⟨b0,e0,g0⟩:=aB (o:=0) (n:=1) Tryz.underlying33 h hw 0 rfl a7 (by omega)
 obtain⟨b1,e1,g1⟩:=aB (o:=1) (n:=1) Tryz.underlying33 h hw 1 rfl xj (by omega)
 exact⟨⟨b0,b1⟩,(List.drop_zero (l:=cs)).symm.trans (chain e0 (chain e1 (List.drop_eq_nil_of_le (by omega)))),g1⟩
theorem yj:Op enc w base spare held 42 1 (β:=Sl Bs) (jz) (jx w zh 24 (fun x=>x.n≤140737488351232)):=by
 refine⟨aV ae (t:=42) rfl,fun m cs x h hl hw=>?_⟩
 obtain⟨b0,e0,g0⟩:=aB (o:=0) (n:=1) Tryz.underlying42 h hw 0 rfl mw (by omega)
 exact⟨b0,(List.drop_zero (l:=cs)).symm.trans (chain e0 (List.drop_eq_nil_of_le (by omega))),g0⟩
theorem xL:Op enc w base spare held 55 10 (β:=Sl Bs×pB) (fun x=>x.1.v::cG x.2) (fun x=>jx w zh 24 (fun x=>x.n≤140737488351232) x.1):=by
 refine⟨aV ae (t:=55) rfl,fun m cs x h hl hw=>?_⟩
 obtain⟨b0,e0,g0⟩:=aB (o:=0) (n:=1) Tryz.underlying55 h hw 0 rfl mw (by omega)
 obtain⟨b1,e1,g1⟩:=aB (o:=1) (n:=9) Tryz.underlying55 h hw 1 rfl iZ (by omega)
 exact⟨⟨b0,b1⟩,(List.drop_zero (l:=cs)).symm.trans (chain e0 (chain e1 (List.drop_eq_nil_of_le (by omega)))),g0⟩
theorem pc:Op enc w base spare held 57 4 (β:=zS) (qQ) (fun _=>True):=by
 refine⟨aV ae (t:=57) rfl,fun m cs x h hl hw=>?_⟩
 obtain⟨b0,e0,g0⟩:=aB (o:=0) (n:=1) Tryz.underlying57 h hw 0 rfl a7 (by omega)
 obtain⟨b1,e1,g1⟩:=aB (o:=1) (n:=1) Tryz.underlying57 h hw 1 rfl a7 (by omega)
 obtain⟨b2,e2,g2⟩:=aB (o:=2) (n:=1) Tryz.underlying57 h hw 2 rfl dF (by omega)
 obtain⟨b3,e3,g3⟩:=aB (o:=3) (n:=1) Tryz.underlying57 h hw 3 rfl dF (by omega)
 exact⟨⟨b0,b1,b2,b3⟩,(List.drop_zero (l:=cs)).symm.trans (chain e0 (chain e1 (chain e2 (chain e3 (List.drop_eq_nil_of_le (by omega)))))),trivial⟩
theorem xR:Op enc w base spare held 60 24 (β:=wJ) (dh) (fun x=>jx w bV 32 (fun _=>True) ⟨x.fh,x.fly⟩∧jx w zh 24 (fun x=>x.n≤140737488351232) ⟨x.wh,x.wait⟩):=by
 refine⟨aV ae (t:=60) rfl,fun m cs x h hl hw=>?_⟩
 obtain⟨b0,e0,g0⟩:=aB (o:=0) (n:=1) Tryz.underlying60 h hw 0 rfl cZ (by omega)
 obtain⟨b1,e1,g1⟩:=aB (o:=1) (n:=1) Tryz.underlying60 h hw 1 rfl a7 (by omega)
 obtain⟨b2,e2,g2⟩:=aB (o:=2) (n:=1) Tryz.underlying60 h hw 2 rfl a7 (by omega)
 obtain⟨b3,e3,g3⟩:=aB (o:=3) (n:=1) Tryz.underlying60 h hw 3 rfl a7 (by omega)
 obtain⟨b4,e4,g4⟩:=aB (o:=4) (n:=1) Tryz.underlying60 h hw 4 rfl sI (by omega)
 obtain⟨b5,e5,g5⟩:=aB (o:=5) (n:=1) Tryz.underlying60 h hw 5 rfl mw (by omega)
 obtain⟨b6,e6,g6⟩:=aB (o:=6) (n:=9) Tryz.underlying60 h hw 6 rfl iZ (by omega)
 obtain⟨b7,e7,g7⟩:=aB (o:=15) (n:=9) Tryz.underlying60 h hw 7 rfl iZ (by omega)
 exact⟨⟨b0,b1,b2,b3,b4.h,b4.l,b5.h,b5.l,b6,b7⟩,(List.drop_zero (l:=cs)).symm.trans (chain e0 (chain e1 (chain e2 (chain e3 (chain e4 (chain e5 (chain e6 (chain e7 (List.drop_eq_nil_of_le (by omega)))))))))),g4,g5⟩
theorem uI:Op enc w base spare held 62 23 (β:=x7) (dw) (fun _=>True):=by
 refine⟨aV ae (t:=62) rfl,fun m cs x h hl hw=>?_⟩
 obtain⟨b0,e0,g0⟩:=aB (o:=0) (n:=1) Tryz.underlying62 h hw 0 rfl cZ (by omega)
 obtain⟨b1,e1,g1⟩:=aB (o:=1) (n:=1) Tryz.underlying62 h hw 1 rfl a7 (by omega)
 obtain⟨b2,e2,g2⟩:=aB (o:=2) (n:=1) Tryz.underlying62 h hw 2 rfl a7 (by omega)
 obtain⟨b3,e3,g3⟩:=aB (o:=3) (n:=1) Tryz.underlying62 h hw 3 rfl cZ (by omega)
 obtain⟨b4,e4,g4⟩:=aB (o:=4) (n:=1) Tryz.underlying62 h hw 4 rfl cZ (by omega)
 obtain⟨b5,e5,g5⟩:=aB (o:=5) (n:=9) Tryz.underlying62 h hw 5 rfl iZ (by omega)
 obtain⟨b6,e6,g6⟩:=aB (o:=14) (n:=9) Tryz.underlying62 h hw 6 rfl iZ (by omega)
 exact⟨⟨b0,b1,b2,b3,b4,b5,b6⟩,(List.drop_zero (l:=cs)).symm.trans (chain e0 (chain e1 (chain e2 (chain e3 (chain e4 (chain e5 (chain e6 (List.drop_eq_nil_of_le (by omega))))))))),trivial⟩
theorem u3:Op enc w base spare held 65 2 (β:=Int×Sl Al) (fun x=>[.int .i64 x.1,x.2.v]) (fun x=>jx w fu 16 (fun _=>True) x.2):=by
 refine⟨aV ae (t:=65) rfl,fun m cs x h hl hw=>?_⟩
 obtain⟨b0,e0,g0⟩:=aB (o:=0) (n:=1) Tryz.underlying65 h hw 0 rfl a7 (by omega)
 obtain⟨b1,e1,g1⟩:=aB (o:=1) (n:=1) Tryz.underlying65 h hw 1 rfl uK (by omega)
 exact⟨⟨b0,b1⟩,(List.drop_zero (l:=cs)).symm.trans (chain e0 (chain e1 (List.drop_eq_nil_of_le (by omega)))),g1⟩
theorem vO:Op enc w base spare held 66 (5*1) (uR 5 bC) fun g=>∀ i,i<5→True:=fp Tryz.underlying66 (by kernel_rfl) dF
theorem tZ:Op enc w base spare held 26 (11*1) (uR 11 bC) fun g=>∀ i,i<11→True:=fp Tryz.underlying26 (by kernel_rfl) dF
instance:Inhabited gn:=⟨⟨0,0,0,false,false,false,0,default⟩⟩
theorem va:Op enc w base spare held 25 (32*8) (uR 32 eP) fun g=>∀ i,i<32→(g i).data.n≤140737488351232:=fp Tryz.underlying25 (by kernel_rfl) xb
theorem uE:Op enc w base spare held 45 (32*1) (uR 32 jz) fun g=>∀ i,i<32→jx w bx 24 (fun _=>True) (g i):=fp Tryz.underlying45 (by kernel_rfl) vZ
theorem yZ:Op enc w base spare held 69 6 (β:=(Nat→Bool)×Sl qc) (fun x=>uR 5 bC x.1 ++ [x.2.v]) (fun x=>jx w cM 48 (fun _=>True) x.2):=by
 refine⟨aV ae (t:=69) rfl,fun m cs x h hl hw=>?_⟩
 obtain⟨b0,e0,g0⟩:=aB (o:=0) (n:=5) Tryz.underlying69 h hw 0 rfl vO (by omega)
 obtain⟨b1,e1,g1⟩:=aB (o:=5) (n:=1) Tryz.underlying69 h hw 1 rfl vX (by omega)
 exact⟨⟨b0,b1⟩,(List.drop_zero (l:=cs)).symm.trans (chain e0 (chain e1 (List.drop_eq_nil_of_le (by omega)))),g1⟩
end
end Go.Proofs.YtlnhdpjnlffaoaaGreatDoor
namespace Go.Proofs.YtlnhdpjnlffaoaaGreatDoor
open Go Go.Sx Go.ChangeShapes Go.WideShapes
set_option maxRecDepth 100000
set_option maxHeartbeats 2000000
set_option linter.unusedVariables false
set_option linter.unusedSimpArgs false
structure ya (w:World) (s:bR):Prop where
 wide:s.p9
 rows:s.Rows w∧s.nw.At aR w
 data : ∀ i,i<32→(s.T i).data.n≤140737488355328
 fly:s.lk.fly.length≤4398046511104
section
variable {H:Type} {enc:TypeId×Value→H} {w:World} {base:Nat} {spare:Nat→Bool} {held:Bool}
theorem vA:Op enc w base spare held 74 380 gj (ya w):=by
 refine⟨aV ae (t:=74) rfl,fun m cs x h hl hw=>?_⟩
 obtain⟨b0,e0,g0⟩:=aB (o:=0) (n:=256) Tryz.underlying74 h hw 0 rfl va (by omega)
 obtain⟨b1,e1,g1⟩:=aB (o:=256) (n:=11) Tryz.underlying74 h hw 1 rfl tZ (by omega)
 obtain⟨b2,e2,g2⟩:=aB (o:=267) (n:=2) Tryz.underlying74 h hw 2 rfl wa (by omega)
 obtain⟨b3,e3,g3⟩:=aB (o:=269) (n:=2) Tryz.underlying74 h hw 3 rfl xN (by omega)
 obtain⟨b4,e4,g4⟩:=aB (o:=271) (n:=1) Tryz.underlying74 h hw 4 rfl uD (by omega)
 obtain⟨b5,e5,g5⟩:=aB (o:=272) (n:=1) Tryz.underlying74 h hw 5 rfl tP (by omega)
 obtain⟨b6,e6,g6⟩:=aB (o:=273) (n:=1) Tryz.underlying74 h hw 6 rfl vm (by omega)
 obtain⟨b7,e7,g7⟩:=aB (o:=274) (n:=1) Tryz.underlying74 h hw 7 rfl yj (by omega)
 obtain⟨b8,e8,g8⟩:=aB (o:=275) (n:=32) Tryz.underlying74 h hw 8 rfl uE (by omega)
 obtain⟨b9,e9,g9⟩:=aB (o:=307) (n:=1) Tryz.underlying74 h hw 9 rfl sj (by omega)
 obtain⟨b10,e10,g10⟩:=aB (o:=308) (n:=10) Tryz.underlying74 h hw 10 rfl xL (by omega)
 obtain⟨b11,e11,g11⟩:=aB (o:=318) (n:=4) Tryz.underlying74 h hw 11 rfl pc (by omega)
 obtain⟨b12,e12,g12⟩:=aB (o:=322) (n:=24) Tryz.underlying74 h hw 12 rfl xR (by omega)
 obtain⟨b13,e13,g13⟩:=aB (o:=346) (n:=23) Tryz.underlying74 h hw 13 rfl uI (by omega)
 obtain⟨b14,e14,g14⟩:=aB (o:=369) (n:=2) Tryz.underlying74 h hw 14 rfl u3 (by omega)
 obtain⟨b15,e15,g15⟩:=aB (o:=371) (n:=6) Tryz.underlying74 h hw 15 rfl yZ (by omega)
 obtain⟨b16,e16,g16⟩:=aB (o:=377) (n:=1) Tryz.underlying74 h hw 16 rfl rh (by omega)
 obtain⟨b17,e17,g17⟩:=aB (o:=378) (n:=1) Tryz.underlying74 h hw 17 rfl pf (by omega)
 obtain⟨b18,e18,g18⟩:=aB (o:=379) (n:=1) Tryz.underlying74 h hw 18 rfl vP (by omega)
 have hcs:cs=uR 32 eP b0++(uR 11 bC b1++([b2.1.v,b2.2.v]++([.int .i64 b3.1,b3.2.v]++(jz b4++(jz b5++(jz b6++(jz b7++(uR 32 jz b8++(jz b9++((b10.1.v::cG b10.2)++(qQ b11++(dh b12++(dw b13++([.int .i64 b14.1,b14.2.v]++((uR 5 bC b15.1 ++ [b15.2.v])++(jz b16++(jz b17++(jz b18 ++ [])))))))))))))))))):=
  (List.drop_zero (l:=cs)).symm.trans (chain e0 (chain e1 (chain e2 (chain e3 (chain e4 (chain e5 (chain e6 (chain e7 (chain e8 (chain e9 (chain e10 (chain e11 (chain e12 (chain e13 (chain e14 (chain e15 (chain e16 (chain e17 (chain e18 (List.drop_eq_nil_of_le (by omega)))))))))))))))))))))
 refine⟨⟨b0,b1,b2.1,b2.2,b3.1,b3.2,b4,b5,b6,b7,b8,b9,b10.1,b10.2,b11,b12,b13,b14.1,b14.2,b15.1,b15.2,b16,b17,b18⟩,hcs.trans (by kernel_rfl),?_⟩
 have r7:=g7.row
 have r10:=g10.row
 have r12:=g12.2.row
 have r6:=g6.row
 rw[zo] at r7 r10 r12
 rw[zp] at r6
 refine⟨⟨g2.1.ok (by decide),g2.2.ok (by decide),g3.ok (by decide),g4.ok (by decide),g5.ok (by decide),g6.ok (by decide),g7.ok (by decide),fun i hi=>(g8 i hi).ok (by decide),g9.ok (by decide),g10.ok (by decide),g12.1.h,(g12.1.ok (by decide)).le,g12.2.h,(g12.2.ok (by decide)).le,g14.ok (by decide),g15.ok (by decide),g16.ok (by decide),g17.ok (by decide),g18.ok (by decide)⟩,
  ⟨⟨g2.1.row,g2.2.row,g3.row,g4.row,g5.row,r6,r7,fun i hi=>(g8 i hi).row,g9.row,r10,g12.1.row,r12,g14.row,g15.row,g16.row,g17.row⟩,g18.row⟩,fun i hi=>Nat.le_trans (g0 i hi) (by decide),?_⟩
 have:=g12.1.sz
 show b12.fly.length≤_
 have h1:b12.fly.length*32≤140737488351232:=this
 omega
end
end Go.Proofs.YtlnhdpjnlffaoaaGreatDoor
namespace Go.Proofs.YtlnhdpjnlffaoaaGreatDoor
open Go Go.Sx Go.ChangeShapes Go.WideShapes
set_option maxRecDepth 100000
set_option maxHeartbeats 2000000
set_option linter.unusedVariables false
set_option linter.unusedSimpArgs false
def zw (x:Fm):DataW Unit:=.agg [.lit (.int .i64 x.fr),.lit (.int .i64 x.to),.lit (.string x.args),.lit (.int .i64 x.data)]
def AL:DataW Unit→Fm
 | .agg [.lit (.int .i64 a),.lit (.int .i64 b),.lit (.string l),.lit (.int .i64 c)]=>⟨a,b,l,c⟩
 | _=>⟨0,0,[],0⟩
theorem w6 (x:Fm):AL (zw x)=x:=rfl
section
variable {enc:TypeId×Value→Unit} {w:World} {base:Nat} {spare:Nat→Bool} {held:Bool}
theorem sO {n:Nat} {cs:List Value} (hl:cs.length=4) {x:DataW Unit×List MemPlace} (h:DataW.trod enc Tryz.prog w base spare held n 339 cs=some x) : ∃ b:Fm,cs=wI b∧x.1=zw b:=by
 obtain⟨xs,m,_,hx,_,hxl,hel⟩:=DataW.trod_struct Tryz.underlying339 h
 have c3:Tryz.prog.cellsOf 3=1:=aV ae (t:=3) rfl
 have c9:Tryz.prog.cellsOf 9=1:=aV ae (t:=9) rfl
 obtain⟨x0,x1,x2,x3,rfl⟩ : ∃ a b c d,cs = [a,b,c,d]:=by
  rcases cs with _ | ⟨a,_ | ⟨b,_ | ⟨c,_ | ⟨d,_ | ⟨e,r⟩⟩⟩⟩⟩<;>simp at hl
  exact⟨a,b,c,d,rfl⟩
 obtain⟨y0,y1,y2,y3,rfl⟩ : ∃ a b c d,xs = [a,b,c,d]:=by
  rcases xs with _ | ⟨a,_ | ⟨b,_ | ⟨c,_ | ⟨d,_ | ⟨e,r⟩⟩⟩⟩⟩<;>simp at hxl
  exact⟨a,b,c,d,rfl⟩
 have h0:DataW.trod enc Tryz.prog w base spare held m 3 (List.take (Tryz.prog.cellsOf 3) [x0,x1,x2,x3])=some y0:=hel 0 _ rfl
 have h1:DataW.trod enc Tryz.prog w base spare held m 3 (List.take (Tryz.prog.cellsOf 3) [x1,x2,x3])=some y1:=hel 1 _ rfl
 have h2:DataW.trod enc Tryz.prog w base spare held m 9 (List.take (Tryz.prog.cellsOf 9) [x2,x3])=some y2:=hel 2 _ rfl
 have h3:DataW.trod enc Tryz.prog w base spare held m 3 (List.take (Tryz.prog.cellsOf 3) [x3])=some y3:=hel 3 _ rfl
 rw[c3] at h0 h1 h3
 rw[c9] at h2
 obtain⟨z0,e0,f0,_⟩:=DataW.trod_int Tryz.underlying3 (x:=y0) h0
 obtain⟨z1,e1,f1,_⟩:=DataW.trod_int Tryz.underlying3 (x:=y1) h1
 obtain⟨z2,e2,f2,_⟩:=DataW.trod_string Tryz.underlying9 (x:=y2) h2
 obtain⟨z3,e3,f3,_⟩:=DataW.trod_int Tryz.underlying3 (x:=y3) h3
 cases e0
 cases e1
 cases e2
 cases e3
 subst f0 f1 f2 f3
 refine⟨⟨z0,z1,z2.data.toList,z3⟩,rfl,?_⟩
 rw[hx]
 rfl
theorem qE {n:Nat} {cs:List Value} (hl:cs.length=112) {x:DataW Unit×List MemPlace} (h:DataW.trod enc Tryz.prog w base spare held n 340 cs=some x) (hx:x.1=Rows.laid_ratoon_message_forms):cs=ek.flatMap wI:=by
 obtain⟨xs,m,_,hxx,_,hxl,hel⟩:=DataW.trod_array Tryz.underlying340 h
 have c4:Tryz.prog.cellsOf 339=4:=aV ae (t:=339) rfl
 have hp : ∀ i,i<28→∃ b:Fm,(cs.drop (i*4)).take 4=wI b∧(xs[i]?).map (·.1)=some (zw b):=fun i hi=>by
  have h1:=hel i hi
  rw[c4,List.getElem?_eq_getElem (by omega)] at h1
  obtain⟨b,h2,h3⟩:=sO (by rw[List.length_take,List.length_drop];omega) h1
  exact⟨b,h2,by rw[List.getElem?_eq_getElem (by omega),Option.map_some,h3]⟩
 obtain⟨l,hll,hq⟩:=lF 28 hp
 have hd:xs.map (·.1)=l.map zw:=by
  apply List.ext_getElem?
  intro i
  rw[List.getElem?_map,List.getElem?_map]
  by_cases hi:i<l.length
  · rw[(hq i hi).2,List.getElem?_eq_getElem hi]
    rfl
  · rw[List.getElem?_eq_none (by omega),List.getElem?_eq_none (by omega)]
    rfl
 have hL:l=ek:=by
  rw[hxx] at hx
  have h1:DataW.agg (l.map zw)=Rows.laid_ratoon_message_forms:=by rw[← hd];exact hx
  have h2 : ∀ d:DataW Unit,d=Rows.laid_ratoon_message_forms→(match d with | .agg p=>p.map AL | _=>[])=ek:=fun d hd=>by rw[hd];rfl
  have h3:=h2 _ h1
  dsimp only at h3
  rw[List.map_map] at h3
  rw[← h3]
  conv=>lhs;rw[← List.map_id l]
  exact List.map_congr_left fun x _=>(w6 x).symm
 have key : ∀ j,j≤28→cs.take (j*4)=(l.take j).flatMap wI:=by
  intro j
  induction j with
  | zero=>intro _;simp
  | succ j ih=>
   intro hj
   rw[List.take_succ_eq_append_getElem (by omega),List.flatMap_append,← ih (by omega),Nat.succ_mul,List.take_add,(hq j (by omega)).1]
   simp
 have:=key 28 (Nat.le_refl _)
 rw[List.take_of_length_le (by omega),List.take_of_length_le (by omega),hL] at this
 exact this
end
end Go.Proofs.YtlnhdpjnlffaoaaGreatDoor
