/- Parts of the proof: AdQ, AdR, AdS, AdT. -/
import Derived.Test.YtlnhdpjnlffaoaaGreatDoorQH
import Derived.Test.YtlnhdpjnlffaoaaGreatDoorQJ
import Derived.Test.YtlnhdpjnlffaoaaGreatDoorQK
import Derived.Test.YtlnhdpjnlffaoaaGreatDoorRows
import Derived.SizedLaws
import Derived.OpenShut
namespace Go.Proofs.YtlnhdpjnlffaoaaGreatDoor
open Go Go.Sx Go.ChangeShapes Go.WideShapes
set_option maxRecDepth 100000
set_option maxHeartbeats 2000000
set_option linter.unusedVariables false
set_option linter.unusedSimpArgs false
section
variable {H:Type} (enc:TypeId×Value→H) (w:World) (base:Nat) (spare:Nat→Bool) (held:Bool)
structure Op (t:TypeId) (n:Nat) {β:Type} (f:β→List Value) (good:β→Prop):Prop where
 cells:Tryz.prog.cellsOf t=n
 get : ∀ (m:Nat) (cs:List Value) (x:DataW H×List MemPlace),DataW.trod enc Tryz.prog w base spare held m t cs=some x→cs.length=n→(∀ k∈x.1.weights Tryz.prog t,k≤reachBytes)→∃ b:β,cs=f b∧good b
end
section
variable {H:Type} {enc:TypeId×Value→H} {w:World} {base:Nat} {spare:Nat→Bool} {held:Bool}
theorem rL {α:Type} {cs:List α} (h:cs.length=1) : ∃ v,cs = [v]:=by
 rcases cs with _ | ⟨v,_ | ⟨u,r⟩⟩<;>simp at h
 exact⟨v,rfl⟩
def iC (z:Int):List Value:=[.int .i64 z]
def bC (z:Bool):List Value:=[.bool z]
def uC (z:Nat):List Value:=[.int .u8 z]
def ld {β:Type} (s:Sl β):List Value:=[s.v]
def Dc (x:Bs):List Value:=[du x]
def yi {β:Type} (n:Nat) (f:β→List Value) (g:Nat→β):List Value:=(List.range n).flatMap fun i=>f (g i)
theorem bd:Op enc w base spare held 3 1 iC fun _=>True:=by
 refine⟨aZ ae (t:=3) rfl,fun m cs x h hl _=>?_⟩
 obtain⟨v,rfl⟩:=rL hl
 obtain⟨z,h1,_,hw⟩:=DataW.trod_int Tryz.underlying3 h
 cases h1
 exact⟨z,rfl,trivial⟩
theorem eO:Op enc w base spare held 4 1 bC fun _=>True:=by
 refine⟨aZ ae (t:=4) rfl,fun m cs x h hl _=>?_⟩
 obtain⟨v,rfl⟩:=rL hl
 obtain⟨z,h1,_⟩:=DataW.trod_bool Tryz.underlying4 h
 cases h1
 exact⟨z,rfl,trivial⟩
theorem De:Op enc w base spare held 5 1 uC fun _=>True:=by
 refine⟨aZ ae (t:=5) rfl,fun m cs x h hl _=>?_⟩
 obtain⟨v,rfl⟩:=rL hl
 obtain⟨z,h1,_,hw⟩:=DataW.trod_int Tryz.underlying5 h
 cases h1
 have hb:=bounds_u8 hw
 refine⟨z.toNat,?_,trivial⟩
 unfold uC
 congr 2
 omega
theorem uj {P:Program} {t e:TypeId} {n sz:Nat} {v:Value} {x:DataW H×List MemPlace} (ht:P.underlying t=some (.slice e)) (hs:P.cellsOf e=sz) (hsz:0<sz)
 (h:DataW.trod enc P w base spare held n t [v]=some x) : ∃ (k:Hd) (L:List (List Value)),v=k.v L.length∧k.Ok L.length∧ai w k.a L.flatten∧
  (∀ c∈L,c.length=sz∧∃ m y,DataW.trod enc P w base spare held m e c=some y∧∃ el sp,x.1 = .slice el sp∧y.1∈el)∧(L = []∨∃ el sp,x.1 = .slice el sp∧el.length=L.length):=by
 rcases DataW.trod_slice ht h with⟨h1,_⟩ | ⟨a,len,cap,elems,rest,m,_,h1,hx,_,hle,_,hel,hat,_,_⟩
 · cases h1
   exact⟨Hd.nil,[],rfl,Hd.ox,rfl,by simp,.inl rfl⟩
 · cases h1
   have hcell : ∀ i,i<len→∃ c:List Value,c.length=sz∧(∀ j,j<sz→w.cell? ((a.add (i*sz)).add j)=c[j]?)∧∃ m y,DataW.trod enc P w base spare held m e c=some y∧∃ el sp,x.1 = .slice el sp∧y.1∈el:=by
    intro i hi
    have h2:=hat i hi
    rw[hs,List.getElem?_eq_getElem (by omega)] at h2
    cases hcs:w.cells? base (a.add (i*sz)) sz with
    | none=>rw[hcs] at h2;cases h2
    | some cs=>
     rw[hcs] at h2
     obtain⟨_,h4,h3⟩:=World.cells?_some hcs
     exact⟨cs,h4,h3,m,_,h2,_,_,by rw[hx],List.mem_map.2 ⟨_,List.getElem_mem _,rfl⟩⟩
   obtain⟨L,hl,hp⟩:=nM len hcell
   have hlen : ∀ c∈L,c.length=sz:=fun c hc=>by
    obtain⟨i,hi,rfl⟩:=List.getElem_of_mem hc
    exact(hp i hi).1
   refine⟨⟨some a,cap⟩,L,by simp[Hd.v,hl],⟨by simp,by simpa [hl] using hle⟩,?_,fun c hc=>?_,.inr ⟨_,_,by rw[hx],by simp[hel,hl]⟩⟩
   · rcases Nat.eq_zero_or_pos len with h0 | h0
     · have:L = []:=List.eq_nil_of_length_eq_zero (by omega)
       subst this
       exact .inl rfl
     · have hl0:0<L.length:=by omega
       have c0:=(hp 0 hl0).2.1 0 hsz
       have z0:(a.add (0*sz)).add 0=a:=by simp[Addr.add]
       rw[z0,List.getElem?_eq_getElem (by rw[(hp 0 hl0).1];exact hsz)] at c0
       have hh:a.spot=none∧∃ arr e fz,w.heap[a.block]? = some (.cells arr e fz):=by
        unfold World.cell? at c0
        split at c0
        · rename_i c el fz hb
          split at c0
          · cases c0
          · rename_i hsp
            exact⟨by cases hq:a.spot<;>simp_all,c,el,fz,hb⟩
        · cases c0
       obtain⟨hsp,arr,el,fz,hb⟩:=hh
       refine .inr ⟨hsp,arr,el,fz,hb,fun j hj=>?_⟩
       rw[lX hlen] at hj
       have hq:j/sz<L.length:=(Nat.div_lt_iff_lt_mul hsz).2 hj
       have hr:j%sz<sz:=Nat.mod_lt _ hsz
       have e1:j/sz*sz+j%sz=j:=by rw[Nat.mul_comm];exact Nat.div_add_mod j sz
       have h5:=(hp _ hq).2.1 _ hr
       rw[Addr.bD hsp,e1] at h5
       have h6:=nX hlen hq hr
       rw[e1] at h6
       rw[h6,← h5]
       obtain⟨b,o,sp⟩:=a
       simp only at hsp hb
       subst hsp
       rw[Addr.bE]
       simp[World.cell?,hb]
   · obtain⟨i,hi,rfl⟩:=List.getElem_of_mem hc
     exact⟨(hp i hi).1,(hp i hi).2.2⟩
theorem gn {P:Program} {e:TypeId} : ∀ {l:List (DataW H)} {d:DataW H},d∈l→∀ k∈d.weights P e,k∈DataW.weightsAll P e l
 | d0::l,d,hd,k,hk=>by
  rcases List.mem_cons.1 hd with rfl | h
  · unfold DataW.weightsAll
    exact List.mem_append.2 (.inl hk)
  · unfold DataW.weightsAll
    exact List.mem_append.2 (.inr (gn h k hk))
structure lj {β:Type} (w:World) (f:β→List Value) (bz:Nat) (good:β→Prop) (s:Sl β):Prop where
 h:s.h.Ok s.l.length
 sz:s.l.length*bz≤140737488351232
 row:ai w s.h.a (s.l.flatMap f)
 all : ∀ b∈s.l,good b
theorem lj.ok {β:Type} {f:β→List Value} {bz:Nat} {good:β→Prop} {s:Sl β} (h:lj w f bz good s) (hb:0<bz):s.Ok:=by
 refine⟨h.h,?_⟩
 have:=h.sz
 have:s.l.length*1≤s.l.length*bz:=Nat.mul_le_mul_left _ hb
 omega
theorem cR {t e:TypeId} {sz bz:Nat} {β:Type} {f:β→List Value} {good:β→Prop} (ht:Tryz.prog.underlying t=some (.slice e)) (hc:Tryz.prog.cellsOf t=1) (hbz:Tryz.prog.bytesOf e=bz) (hsz:0<sz) (he:Op enc w base spare held e sz f good) :
 Op enc w base spare held t 1 (ld (β:=β)) (lj w f bz good):=by
 refine⟨hc,fun m cs x h hl hw=>?_⟩
 obtain⟨v,rfl⟩:=rL hl
 obtain⟨k,L,rfl,hk,hr,hcl,hsl⟩:=uj ht he.cells hsz h
 have hwl:L.length*bz≤140737488351232:=by
  rcases hsl with rfl | ⟨el,sp,h1,h2⟩
  · simp
  rw[h1] at hw
  have:=hw ((el.length+sp.length)*Tryz.prog.bytesOf e) (by
   unfold DataW.weights
   rw[ht]
   exact List.mem_cons_self ..)
  rw[hbz] at this
  unfold reachBytes at this
  have h3:L.length*bz≤(el.length+sp.length)*bz:=Nat.mul_le_mul_right _ (by omega)
  omega
 obtain⟨l,rfl,hg⟩:=w8 (f:=f) (good:=good) (L:=L) fun c hcm=>by
  obtain⟨h1,m,y,h2,el,sp,h3,h4⟩:=hcl c hcm
  refine he.get m c y h2 h1 fun k hk=>hw k ?_
  rw[h3]
  unfold DataW.weights
  rw[ht]
  exact List.mem_cons_of_mem _ (List.mem_append.2 (.inl (gn h4 k hk)))
 rw[List.length_map] at hwl hk
 refine⟨⟨k,l⟩,?_,hk,hwl,?_,hg⟩
 · unfold ld Sl.v
   rw[List.length_map]
 · show ai w k.a (l.flatMap f)
   rw[List.flatMap_def]
   exact hr
theorem ic {t e:TypeId} {n sz:Nat} {β:Type} [Inhabited β] {f:β→List Value} {good:β→Prop} (ht:Tryz.prog.underlying t=some (.array n e)) (hc:Tryz.prog.cellsOf t=n*sz) (he:Op enc w base spare held e sz f good) :
 Op enc w base spare held t (n*sz) (yi n f) fun g=>∀ i,i<n→good (g i):=by
 refine⟨hc,fun m cs x h hl hw=>?_⟩
 obtain⟨xs,m',_,hx,_,hxl,hel⟩:=DataW.trod_array ht h
 have hel' : ∀ i,i<n→∃ b:β,(cs.drop (i*sz)).take sz=f b∧good b:=fun i hi=>by
  have h1:=hel i hi
  rw[he.cells,List.getElem?_eq_getElem (by omega)] at h1
  refine he.get _ _ _ h1 (by
   have:(i+1)*sz≤n*sz:=Nat.mul_le_mul_right _ hi
   rw[Nat.succ_mul] at this
   rw[List.length_take,List.length_drop]
   omega) fun k hk=>hw k ?_
  rw[hx]
  unfold DataW.weights
  rw[ht]
  exact gn (List.mem_map.2 ⟨_,List.getElem_mem _,rfl⟩) k hk
 obtain⟨l,hll,hp⟩:=nM n hel'
 have hg : ∀ i (h:i<l.length),l[i]! = l[i]:=fun i h=>by simp[h]
 refine⟨fun i=>l[i]!,?_,fun i hi=>by dsimp only;rw[hg i (by omega)];exact(hp i (by omega)).2⟩
 have key : ∀ j,j≤n→cs.take (j*sz)=(List.range j).flatMap fun i=>f l[i]!:=by
  intro j
  induction j with
  | zero=>intro _;simp
  | succ j ih=>
   intro hj
   rw[List.range_succ,List.flatMap_append,← ih (by omega),Nat.succ_mul,List.take_add]
   congr 1
   rw[(hp j (by omega)).1,← hg j (by omega)]
   simp
 have:=key n (Nat.le_refl _)
 rw[List.take_of_length_le (by omega)] at this
 exact this
theorem aI {t u:TypeId} {fs:Array Field} {m o n:Nat} {cs:List Value} {x:DataW H×List MemPlace} {β:Type} {f:β→List Value} {good:β→Prop} (ht:Tryz.prog.underlying t=some (.struct fs)) (h:DataW.trod enc Tryz.prog w base spare held m t cs=some x) (hw : ∀ k∈x.1.weights Tryz.prog t,k≤reachBytes)
 (i:Nat) (hf:(fs[i]?).map (fun f=>(f.type,f.offset))=some (u,o)) (he:Op enc w base spare held u n f good) (hl:o+n≤cs.length) : ∃ b:β,(cs.drop o).take n=f b∧good b:=by
 obtain⟨xs,m',_,hx,_,hxl,hel⟩:=DataW.trod_struct ht h
 cases hg:fs[i]? with
 | none=>rw[hg] at hf;cases hf
 | some fd=>
  rw[hg] at hf
  have hi:i<fs.size:=(Array.getElem?_eq_some_iff.1 hg).1
  have h1:=hel i fd hg
  cases hf
  rw[he.cells,List.getElem?_eq_getElem (by omega)] at h1
  refine he.get _ _ _ h1 (by rw[List.length_take,List.length_drop];omega) fun k hk=>hw k ?_
  rw[hx]
  unfold DataW.weights
  rw[ht]
  refine DataW.weights_mem_each (j:=i) (t:=fd.type) (d:=xs[i].1) ?_ ?_ k hk
  · rw[List.getElem?_map]
    have:fs.toList[i]? = some fd:=by rw[Array.getElem?_toList];exact hg
    rw[this]
    rfl
  · rw[List.getElem?_map,List.getElem?_eq_getElem (by omega)]
    rfl
theorem chain {cs a r:List Value} {o n:Nat} (h:(cs.drop o).take n=a) (k:cs.drop (o+n)=r):cs.drop o=a++r:=by
 rw[← h,← k,← List.drop_drop,List.take_append_drop]
end
end Go.Proofs.YtlnhdpjnlffaoaaGreatDoor
namespace Go.Proofs.YtlnhdpjnlffaoaaGreatDoor
open Go Go.Sx Go.ChangeShapes Go.WideShapes
set_option maxRecDepth 100000
set_option maxHeartbeats 2000000
set_option linter.unusedVariables false
set_option linter.unusedSimpArgs false
section
variable {H:Type} {enc:TypeId×Value→H} {w:World} {base:Nat} {spare:Nat→Bool} {held:Bool}
theorem DA (l:List Bs):l.flatMap Dc=l.map du:=by
 induction l with
 | nil=>rfl
 | cons x l ih=>rw[List.flatMap_cons,ih,List.map_cons];rfl
theorem Dh (l:List Int):l.flatMap iC=l.map bH:=by
 induction l with
 | nil=>rfl
 | cons x l ih=>rw[List.flatMap_cons,ih,List.map_cons];rfl
theorem dH:Op enc w base spare held 22 1 Dc fun x=>x.n≤140737488351232:=by
 have h:=cR (enc:=enc) (w:=w) (base:=base) (spare:=spare) (held:=held) (t:=22) (bz:=1) Tryz.underlying22 (by kernel_rfl) (by kernel_rfl) (by decide) De
 refine⟨h.cells,fun m cs x h1 h2 h3=>?_⟩
 obtain⟨s,rfl,hs⟩:=h.get m cs x h1 h2 h3
 exact⟨⟨s.h,s.l.length⟩,rfl,by have:=hs.sz;show s.l.length≤140737488351232;omega⟩
theorem BF:Op enc w base spare held 24 8 (β:=gU) (fL) (fun x=>x.data.n≤140737488351232):=by
 refine⟨aZ ae (t:=24) rfl,fun m cs x h hl hw=>?_⟩
 obtain⟨b0,e0,g0⟩:=aI (o:=0) (n:=1) Tryz.underlying24 h hw 0 rfl bd (by omega)
 obtain⟨b1,e1,g1⟩:=aI (o:=1) (n:=1) Tryz.underlying24 h hw 1 rfl bd (by omega)
 obtain⟨b2,e2,g2⟩:=aI (o:=2) (n:=1) Tryz.underlying24 h hw 2 rfl bd (by omega)
 obtain⟨b3,e3,g3⟩:=aI (o:=3) (n:=1) Tryz.underlying24 h hw 3 rfl eO (by omega)
 obtain⟨b4,e4,g4⟩:=aI (o:=4) (n:=1) Tryz.underlying24 h hw 4 rfl eO (by omega)
 obtain⟨b5,e5,g5⟩:=aI (o:=5) (n:=1) Tryz.underlying24 h hw 5 rfl eO (by omega)
 obtain⟨b6,e6,g6⟩:=aI (o:=6) (n:=1) Tryz.underlying24 h hw 6 rfl bd (by omega)
 obtain⟨b7,e7,g7⟩:=aI (o:=7) (n:=1) Tryz.underlying24 h hw 7 rfl dH (by omega)
 exact⟨⟨b0,b1,b2,b3,b4,b5,b6,b7⟩,(List.drop_zero (l:=cs)).symm.trans (chain e0 (chain e1 (chain e2 (chain e3 (chain e4 (chain e5 (chain e6 (chain e7 (List.drop_eq_nil_of_le (by omega)))))))))),g7⟩
theorem Bk:Op enc w base spare held 204 (4*1) (yi 4 iC) fun g=>∀ i,i<4→True:=ic Tryz.underlying204 (by kernel_rfl) bd
theorem AB:Op enc w base spare held 138 (3*1) (yi 3 iC) fun g=>∀ i,i<3→True:=ic Tryz.underlying138 (by kernel_rfl) bd
theorem CQ:Op enc w base spare held 206 9 (β:=Mg) (gv) (fun _=>True):=by
 refine⟨aZ ae (t:=206) rfl,fun m cs x h hl hw=>?_⟩
 obtain⟨b0,e0,g0⟩:=aI (o:=0) (n:=1) Tryz.underlying206 h hw 0 rfl bd (by omega)
 obtain⟨b1,e1,g1⟩:=aI (o:=1) (n:=1) Tryz.underlying206 h hw 1 rfl bd (by omega)
 obtain⟨b2,e2,g2⟩:=aI (o:=2) (n:=1) Tryz.underlying206 h hw 2 rfl bd (by omega)
 obtain⟨b3,e3,g3⟩:=aI (o:=3) (n:=1) Tryz.underlying206 h hw 3 rfl bd (by omega)
 obtain⟨b4,e4,g4⟩:=aI (o:=4) (n:=4) Tryz.underlying206 h hw 4 rfl Bk (by omega)
 obtain⟨b5,e5,g5⟩:=aI (o:=8) (n:=1) Tryz.underlying206 h hw 5 rfl dH (by omega)
 exact⟨⟨b0,b1,b2,b3,b4 0,b4 1,b4 2,b4 3,b5⟩,(List.drop_zero (l:=cs)).symm.trans (chain e0 (chain e1 (chain e2 (chain e3 (chain e4 (chain e5 (List.drop_eq_nil_of_le (by omega)))))))),trivial⟩
theorem Ae:Op enc w base spare held 154 3 (β:=Pr) (b_) (fun _=>True):=by
 refine⟨aZ ae (t:=154) rfl,fun m cs x h hl hw=>?_⟩
 obtain⟨b0,e0,g0⟩:=aI (o:=0) (n:=1) Tryz.underlying154 h hw 0 rfl bd (by omega)
 obtain⟨b1,e1,g1⟩:=aI (o:=1) (n:=1) Tryz.underlying154 h hw 1 rfl bd (by omega)
 obtain⟨b2,e2,g2⟩:=aI (o:=2) (n:=1) Tryz.underlying154 h hw 2 rfl bd (by omega)
 exact⟨⟨b0,b1,b2⟩,(List.drop_zero (l:=cs)).symm.trans (chain e0 (chain e1 (chain e2 (List.drop_eq_nil_of_le (by omega))))),trivial⟩
theorem yv:Op enc w base spare held 156 3 (β:=Rt) (s5) (fun _=>True):=by
 refine⟨aZ ae (t:=156) rfl,fun m cs x h hl hw=>?_⟩
 obtain⟨b0,e0,g0⟩:=aI (o:=0) (n:=1) Tryz.underlying156 h hw 0 rfl bd (by omega)
 obtain⟨b1,e1,g1⟩:=aI (o:=1) (n:=1) Tryz.underlying156 h hw 1 rfl bd (by omega)
 obtain⟨b2,e2,g2⟩:=aI (o:=2) (n:=1) Tryz.underlying156 h hw 2 rfl bd (by omega)
 exact⟨⟨b0,b1,b2⟩,(List.drop_zero (l:=cs)).symm.trans (chain e0 (chain e1 (chain e2 (List.drop_eq_nil_of_le (by omega))))),trivial⟩
theorem Cs:Op enc w base spare held 158 6 (β:=Cp) (bx) (fun _=>True):=by
 refine⟨aZ ae (t:=158) rfl,fun m cs x h hl hw=>?_⟩
 obtain⟨b0,e0,g0⟩:=aI (o:=0) (n:=1) Tryz.underlying158 h hw 0 rfl bd (by omega)
 obtain⟨b1,e1,g1⟩:=aI (o:=1) (n:=1) Tryz.underlying158 h hw 1 rfl bd (by omega)
 obtain⟨b2,e2,g2⟩:=aI (o:=2) (n:=1) Tryz.underlying158 h hw 2 rfl bd (by omega)
 obtain⟨b3,e3,g3⟩:=aI (o:=3) (n:=3) Tryz.underlying158 h hw 3 rfl yv (by omega)
 exact⟨⟨b0,b1,b2,b3⟩,(List.drop_zero (l:=cs)).symm.trans (chain e0 (chain e1 (chain e2 (chain e3 (List.drop_eq_nil_of_le (by omega)))))),trivial⟩
theorem yH:Op enc w base spare held 164 4 (β:=Gr) (bM) (fun _=>True):=by
 refine⟨aZ ae (t:=164) rfl,fun m cs x h hl hw=>?_⟩
 obtain⟨b0,e0,g0⟩:=aI (o:=0) (n:=1) Tryz.underlying164 h hw 0 rfl bd (by omega)
 obtain⟨b1,e1,g1⟩:=aI (o:=1) (n:=1) Tryz.underlying164 h hw 1 rfl bd (by omega)
 obtain⟨b2,e2,g2⟩:=aI (o:=2) (n:=1) Tryz.underlying164 h hw 2 rfl bd (by omega)
 obtain⟨b3,e3,g3⟩:=aI (o:=3) (n:=1) Tryz.underlying164 h hw 3 rfl bd (by omega)
 exact⟨⟨b0,b1,b2,b3⟩,(List.drop_zero (l:=cs)).symm.trans (chain e0 (chain e1 (chain e2 (chain e3 (List.drop_eq_nil_of_le (by omega)))))),trivial⟩
theorem zy:Op enc w base spare held 167 3 (β:=Ti) (cu) (fun _=>True):=by
 refine⟨aZ ae (t:=167) rfl,fun m cs x h hl hw=>?_⟩
 obtain⟨b0,e0,g0⟩:=aI (o:=0) (n:=1) Tryz.underlying167 h hw 0 rfl bd (by omega)
 obtain⟨b1,e1,g1⟩:=aI (o:=1) (n:=1) Tryz.underlying167 h hw 1 rfl bd (by omega)
 obtain⟨b2,e2,g2⟩:=aI (o:=2) (n:=1) Tryz.underlying167 h hw 2 rfl bd (by omega)
 exact⟨⟨b0,b1,b2⟩,(List.drop_zero (l:=cs)).symm.trans (chain e0 (chain e1 (chain e2 (List.drop_eq_nil_of_le (by omega))))),trivial⟩
theorem BC:Op enc w base spare held 135 3 (β:=Se) (bT) (fun _=>True):=by
 refine⟨aZ ae (t:=135) rfl,fun m cs x h hl hw=>?_⟩
 obtain⟨b0,e0,g0⟩:=aI (o:=0) (n:=1) Tryz.underlying135 h hw 0 rfl bd (by omega)
 obtain⟨b1,e1,g1⟩:=aI (o:=1) (n:=1) Tryz.underlying135 h hw 1 rfl bd (by omega)
 obtain⟨b2,e2,g2⟩:=aI (o:=2) (n:=1) Tryz.underlying135 h hw 2 rfl eO (by omega)
 exact⟨⟨b0,b1,b2⟩,(List.drop_zero (l:=cs)).symm.trans (chain e0 (chain e1 (chain e2 (List.drop_eq_nil_of_le (by omega))))),trivial⟩
theorem ye:Op enc w base spare held 133 4 (β:=nG) (aW) (fun _=>True):=by
 refine⟨aZ ae (t:=133) rfl,fun m cs x h hl hw=>?_⟩
 obtain⟨b0,e0,g0⟩:=aI (o:=0) (n:=1) Tryz.underlying133 h hw 0 rfl bd (by omega)
 obtain⟨b1,e1,g1⟩:=aI (o:=1) (n:=1) Tryz.underlying133 h hw 1 rfl bd (by omega)
 obtain⟨b2,e2,g2⟩:=aI (o:=2) (n:=1) Tryz.underlying133 h hw 2 rfl bd (by omega)
 obtain⟨b3,e3,g3⟩:=aI (o:=3) (n:=1) Tryz.underlying133 h hw 3 rfl eO (by omega)
 exact⟨⟨b0,b1,b2,b3⟩,(List.drop_zero (l:=cs)).symm.trans (chain e0 (chain e1 (chain e2 (chain e3 (List.drop_eq_nil_of_le (by omega)))))),trivial⟩
theorem xo:Op enc w base spare held 174 2 (β:=BU) (bX) (fun _=>True):=by
 refine⟨aZ ae (t:=174) rfl,fun m cs x h hl hw=>?_⟩
 obtain⟨b0,e0,g0⟩:=aI (o:=0) (n:=1) Tryz.underlying174 h hw 0 rfl bd (by omega)
 obtain⟨b1,e1,g1⟩:=aI (o:=1) (n:=1) Tryz.underlying174 h hw 1 rfl dH (by omega)
 exact⟨⟨b0,b1⟩,(List.drop_zero (l:=cs)).symm.trans (chain e0 (chain e1 (List.drop_eq_nil_of_le (by omega)))),trivial⟩
theorem yy:Op enc w base spare held 177 2 (β:=Al) (gu) (fun _=>True):=by
 refine⟨aZ ae (t:=177) rfl,fun m cs x h hl hw=>?_⟩
 obtain⟨b0,e0,g0⟩:=aI (o:=0) (n:=1) Tryz.underlying177 h hw 0 rfl bd (by omega)
 obtain⟨b1,e1,g1⟩:=aI (o:=1) (n:=1) Tryz.underlying177 h hw 1 rfl bd (by omega)
 exact⟨⟨b0,b1⟩,(List.drop_zero (l:=cs)).symm.trans (chain e0 (chain e1 (List.drop_eq_nil_of_le (by omega)))),trivial⟩
theorem BD:Op enc w base spare held 180 4 (β:=qs) (cK) (fun _=>True):=by
 refine⟨aZ ae (t:=180) rfl,fun m cs x h hl hw=>?_⟩
 obtain⟨b0,e0,g0⟩:=aI (o:=0) (n:=1) Tryz.underlying180 h hw 0 rfl bd (by omega)
 obtain⟨b1,e1,g1⟩:=aI (o:=1) (n:=1) Tryz.underlying180 h hw 1 rfl bd (by omega)
 obtain⟨b2,e2,g2⟩:=aI (o:=2) (n:=1) Tryz.underlying180 h hw 2 rfl bd (by omega)
 obtain⟨b3,e3,g3⟩:=aI (o:=3) (n:=1) Tryz.underlying180 h hw 3 rfl dH (by omega)
 exact⟨⟨b0,b1,b2,b3⟩,(List.drop_zero (l:=cs)).symm.trans (chain e0 (chain e1 (chain e2 (chain e3 (List.drop_eq_nil_of_le (by omega)))))),trivial⟩
theorem yL:Op enc w base spare held 140 8 (β:=En) (wo) (fun _=>True):=by
 refine⟨aZ ae (t:=140) rfl,fun m cs x h hl hw=>?_⟩
 obtain⟨b0,e0,g0⟩:=aI (o:=0) (n:=1) Tryz.underlying140 h hw 0 rfl bd (by omega)
 obtain⟨b1,e1,g1⟩:=aI (o:=1) (n:=1) Tryz.underlying140 h hw 1 rfl bd (by omega)
 obtain⟨b2,e2,g2⟩:=aI (o:=2) (n:=1) Tryz.underlying140 h hw 2 rfl bd (by omega)
 obtain⟨b3,e3,g3⟩:=aI (o:=3) (n:=3) Tryz.underlying140 h hw 3 rfl AB (by omega)
 obtain⟨b4,e4,g4⟩:=aI (o:=6) (n:=1) Tryz.underlying140 h hw 4 rfl bd (by omega)
 obtain⟨b5,e5,g5⟩:=aI (o:=7) (n:=1) Tryz.underlying140 h hw 5 rfl dH (by omega)
 exact⟨⟨b0,b1,b2,b3 0,b3 1,b3 2,b4,b5⟩,(List.drop_zero (l:=cs)).symm.trans (chain e0 (chain e1 (chain e2 (chain e3 (chain e4 (chain e5 (List.drop_eq_nil_of_le (by omega)))))))),trivial⟩
theorem xG:Op enc w base spare held 222 6 (β:=Acc) (rF) (fun _=>True):=by
 refine⟨aZ ae (t:=222) rfl,fun m cs x h hl hw=>?_⟩
 obtain⟨b0,e0,g0⟩:=aI (o:=0) (n:=1) Tryz.underlying222 h hw 0 rfl bd (by omega)
 obtain⟨b1,e1,g1⟩:=aI (o:=1) (n:=1) Tryz.underlying222 h hw 1 rfl bd (by omega)
 obtain⟨b2,e2,g2⟩:=aI (o:=2) (n:=1) Tryz.underlying222 h hw 2 rfl bd (by omega)
 obtain⟨b3,e3,g3⟩:=aI (o:=3) (n:=1) Tryz.underlying222 h hw 3 rfl bd (by omega)
 obtain⟨b4,e4,g4⟩:=aI (o:=4) (n:=1) Tryz.underlying222 h hw 4 rfl bd (by omega)
 obtain⟨b5,e5,g5⟩:=aI (o:=5) (n:=1) Tryz.underlying222 h hw 5 rfl eO (by omega)
 exact⟨⟨b0,b1,b2,b3,b4,b5⟩,(List.drop_zero (l:=cs)).symm.trans (chain e0 (chain e1 (chain e2 (chain e3 (chain e4 (chain e5 (List.drop_eq_nil_of_le (by omega)))))))),trivial⟩
theorem z_:Op enc w base spare held 171 3 (β:=Db) (aU) (fun _=>True):=by
 refine⟨aZ ae (t:=171) rfl,fun m cs x h hl hw=>?_⟩
 obtain⟨b0,e0,g0⟩:=aI (o:=0) (n:=1) Tryz.underlying171 h hw 0 rfl bd (by omega)
 obtain⟨b1,e1,g1⟩:=aI (o:=1) (n:=1) Tryz.underlying171 h hw 1 rfl bd (by omega)
 obtain⟨b2,e2,g2⟩:=aI (o:=2) (n:=1) Tryz.underlying171 h hw 2 rfl bd (by omega)
 exact⟨⟨b0,b1,b2⟩,(List.drop_zero (l:=cs)).symm.trans (chain e0 (chain e1 (chain e2 (List.drop_eq_nil_of_le (by omega))))),trivial⟩
theorem CT:Op enc w base spare held 49 4 (β:=Int×Int×Int×Bs) (fun x=>[.int .i64 x.1,.int .i64 x.2.1,.int .i64 x.2.2.1,du x.2.2.2]) (fun _=>True):=by
 refine⟨aZ ae (t:=49) rfl,fun m cs x h hl hw=>?_⟩
 obtain⟨b0,e0,g0⟩:=aI (o:=0) (n:=1) Tryz.underlying49 h hw 0 rfl bd (by omega)
 obtain⟨b1,e1,g1⟩:=aI (o:=1) (n:=1) Tryz.underlying49 h hw 1 rfl bd (by omega)
 obtain⟨b2,e2,g2⟩:=aI (o:=2) (n:=1) Tryz.underlying49 h hw 2 rfl bd (by omega)
 obtain⟨b3,e3,g3⟩:=aI (o:=3) (n:=1) Tryz.underlying49 h hw 3 rfl dH (by omega)
 exact⟨⟨b0,b1,b2,b3⟩,(List.drop_zero (l:=cs)).symm.trans (chain e0 (chain e1 (chain e2 (chain e3 (List.drop_eq_nil_of_le (by omega)))))),trivial⟩
theorem Ct:Op enc w base spare held 51 3 (β:=Int×Int×Bs) (fun x=>[.int .i64 x.1,.int .i64 x.2.1,du x.2.2]) (fun _=>True):=by
 refine⟨aZ ae (t:=51) rfl,fun m cs x h hl hw=>?_⟩
 obtain⟨b0,e0,g0⟩:=aI (o:=0) (n:=1) Tryz.underlying51 h hw 0 rfl bd (by omega)
 obtain⟨b1,e1,g1⟩:=aI (o:=1) (n:=1) Tryz.underlying51 h hw 1 rfl bd (by omega)
 obtain⟨b2,e2,g2⟩:=aI (o:=2) (n:=1) Tryz.underlying51 h hw 2 rfl dH (by omega)
 exact⟨⟨b0,b1,b2⟩,(List.drop_zero (l:=cs)).symm.trans (chain e0 (chain e1 (chain e2 (List.drop_eq_nil_of_le (by omega))))),trivial⟩
theorem kx:Op enc w base spare held 53 9 (β:=lZ) (cE) (fun _=>True):=by
 refine⟨aZ ae (t:=53) rfl,fun m cs x h hl hw=>?_⟩
 obtain⟨b0,e0,g0⟩:=aI (o:=0) (n:=1) Tryz.underlying53 h hw 0 rfl eO (by omega)
 obtain⟨b1,e1,g1⟩:=aI (o:=1) (n:=4) Tryz.underlying53 h hw 1 rfl CT (by omega)
 obtain⟨b2,e2,g2⟩:=aI (o:=5) (n:=1) Tryz.underlying53 h hw 2 rfl bd (by omega)
 obtain⟨b3,e3,g3⟩:=aI (o:=6) (n:=3) Tryz.underlying53 h hw 3 rfl Ct (by omega)
 exact⟨⟨b0,b1.1,b1.2.1,b1.2.2.1,b1.2.2.2.h,b1.2.2.2.n,b2,b3.1,b3.2.1,b3.2.2.h,b3.2.2.n⟩,(List.drop_zero (l:=cs)).symm.trans (chain e0 (chain e1 (chain e2 (chain e3 (List.drop_eq_nil_of_le (by omega)))))),trivial⟩
theorem AD:Op enc w base spare held 27 1 (ld (β:=Mg)) (lj w gv 88 (fun _=>True)):=
 cR (t:=27) Tryz.underlying27 (by kernel_rfl) (by kernel_rfl) (by decide) CQ
theorem zH:Op enc w base spare held 28 1 (ld (β:=Pr)) (lj w b_ 24 (fun _=>True)):=
 cR (t:=28) Tryz.underlying28 (by kernel_rfl) (by kernel_rfl) (by decide) Ae
theorem Ai:Op enc w base spare held 31 1 (ld (β:=Cp)) (lj w bx 48 (fun _=>True)):=
 cR (t:=31) Tryz.underlying31 (by kernel_rfl) (by kernel_rfl) (by decide) Cs
theorem xn:Op enc w base spare held 35 1 (ld (β:=Gr)) (lj w bM 32 (fun _=>True)):=
 cR (t:=35) Tryz.underlying35 (by kernel_rfl) (by kernel_rfl) (by decide) yH
theorem xZ:Op enc w base spare held 37 1 (ld (β:=Ti)) (lj w cu 24 (fun _=>True)):=
 cR (t:=37) Tryz.underlying37 (by kernel_rfl) (by kernel_rfl) (by decide) zy
theorem zD:Op enc w base spare held 39 1 (ld (β:=Int)) (lj w iC 8 (fun _=>True)):=
 cR (t:=39) Tryz.underlying39 (by kernel_rfl) (by kernel_rfl) (by decide) bd
theorem pC:Op enc w base spare held 40 1 (ld (β:=Bs)) (lj w Dc 24 (fun x=>x.n≤140737488351232)):=
 cR (t:=40) Tryz.underlying40 (by kernel_rfl) (by kernel_rfl) (by decide) dH
theorem yZ:Op enc w base spare held 44 1 (ld (β:=Se)) (lj w bT 24 (fun _=>True)):=
 cR (t:=44) Tryz.underlying44 (by kernel_rfl) (by kernel_rfl) (by decide) BC
theorem v7:Op enc w base spare held 47 1 (ld (β:=nG)) (lj w aW 32 (fun _=>True)):=
 cR (t:=47) Tryz.underlying47 (by kernel_rfl) (by kernel_rfl) (by decide) ye
theorem v8:Op enc w base spare held 58 1 (ld (β:=BU)) (lj w bX 32 (fun _=>True)):=
 cR (t:=58) Tryz.underlying58 (by kernel_rfl) (by kernel_rfl) (by decide) xo
theorem x8:Op enc w base spare held 63 1 (ld (β:=Al)) (lj w gu 16 (fun _=>True)):=
 cR (t:=63) Tryz.underlying63 (by kernel_rfl) (by kernel_rfl) (by decide) yy
theorem yK:Op enc w base spare held 67 1 (ld (β:=qs)) (lj w cK 48 (fun _=>True)):=
 cR (t:=67) Tryz.underlying67 (by kernel_rfl) (by kernel_rfl) (by decide) BD
theorem wq:Op enc w base spare held 70 1 (ld (β:=En)) (lj w wo 80 (fun _=>True)):=
 cR (t:=70) Tryz.underlying70 (by kernel_rfl) (by kernel_rfl) (by decide) yL
theorem tj:Op enc w base spare held 71 1 (ld (β:=Acc)) (lj w rF 48 (fun _=>True)):=
 cR (t:=71) Tryz.underlying71 (by kernel_rfl) (by kernel_rfl) (by decide) xG
theorem zB:Op enc w base spare held 72 1 (ld (β:=Db)) (lj w aU 24 (fun _=>True)):=
 cR (t:=72) Tryz.underlying72 (by kernel_rfl) (by kernel_rfl) (by decide) z_
theorem yw:Op enc w base spare held 30 2 (β:=Sl Mg×Sl Pr) (fun x=>[x.1.v,x.2.v]) (fun x=>lj w gv 88 (fun _=>True) x.1∧lj w b_ 24 (fun _=>True) x.2):=by
 refine⟨aZ ae (t:=30) rfl,fun m cs x h hl hw=>?_⟩
 obtain⟨b0,e0,g0⟩:=aI (o:=0) (n:=1) Tryz.underlying30 h hw 0 rfl AD (by omega)
 obtain⟨b1,e1,g1⟩:=aI (o:=1) (n:=1) Tryz.underlying30 h hw 1 rfl zH (by omega)
 exact⟨⟨b0,b1⟩,(List.drop_zero (l:=cs)).symm.trans (chain e0 (chain e1 (List.drop_eq_nil_of_le (by omega)))),g0,g1⟩
theorem AN:Op enc w base spare held 33 2 (β:=Int×Sl Cp) (fun x=>[.int .i64 x.1,x.2.v]) (fun x=>lj w bx 48 (fun _=>True) x.2):=by
 refine⟨aZ ae (t:=33) rfl,fun m cs x h hl hw=>?_⟩
 obtain⟨b0,e0,g0⟩:=aI (o:=0) (n:=1) Tryz.underlying33 h hw 0 rfl bd (by omega)
 obtain⟨b1,e1,g1⟩:=aI (o:=1) (n:=1) Tryz.underlying33 h hw 1 rfl Ai (by omega)
 exact⟨⟨b0,b1⟩,(List.drop_zero (l:=cs)).symm.trans (chain e0 (chain e1 (List.drop_eq_nil_of_le (by omega)))),g1⟩
theorem Cx:Op enc w base spare held 42 1 (β:=Sl Bs) (ld) (lj w Dc 24 (fun x=>x.n≤140737488351232)):=by
 refine⟨aZ ae (t:=42) rfl,fun m cs x h hl hw=>?_⟩
 obtain⟨b0,e0,g0⟩:=aI (o:=0) (n:=1) Tryz.underlying42 h hw 0 rfl pC (by omega)
 exact⟨b0,(List.drop_zero (l:=cs)).symm.trans (chain e0 (List.drop_eq_nil_of_le (by omega))),g0⟩
theorem A2:Op enc w base spare held 55 10 (β:=Sl Bs×lZ) (fun x=>x.1.v::cE x.2) (fun x=>lj w Dc 24 (fun x=>x.n≤140737488351232) x.1):=by
 refine⟨aZ ae (t:=55) rfl,fun m cs x h hl hw=>?_⟩
 obtain⟨b0,e0,g0⟩:=aI (o:=0) (n:=1) Tryz.underlying55 h hw 0 rfl pC (by omega)
 obtain⟨b1,e1,g1⟩:=aI (o:=1) (n:=9) Tryz.underlying55 h hw 1 rfl kx (by omega)
 exact⟨⟨b0,b1⟩,(List.drop_zero (l:=cs)).symm.trans (chain e0 (chain e1 (List.drop_eq_nil_of_le (by omega)))),g0⟩
theorem uE:Op enc w base spare held 57 4 (β:=DM) (rJ) (fun _=>True):=by
 refine⟨aZ ae (t:=57) rfl,fun m cs x h hl hw=>?_⟩
 obtain⟨b0,e0,g0⟩:=aI (o:=0) (n:=1) Tryz.underlying57 h hw 0 rfl bd (by omega)
 obtain⟨b1,e1,g1⟩:=aI (o:=1) (n:=1) Tryz.underlying57 h hw 1 rfl bd (by omega)
 obtain⟨b2,e2,g2⟩:=aI (o:=2) (n:=1) Tryz.underlying57 h hw 2 rfl eO (by omega)
 obtain⟨b3,e3,g3⟩:=aI (o:=3) (n:=1) Tryz.underlying57 h hw 3 rfl eO (by omega)
 exact⟨⟨b0,b1,b2,b3⟩,(List.drop_zero (l:=cs)).symm.trans (chain e0 (chain e1 (chain e2 (chain e3 (List.drop_eq_nil_of_le (by omega)))))),trivial⟩
theorem Ab:Op enc w base spare held 60 24 (β:=zY) (dO) (fun x=>lj w bX 32 (fun _=>True) ⟨x.fh,x.fly⟩∧lj w Dc 24 (fun x=>x.n≤140737488351232) ⟨x.wh,x.wait⟩):=by
 refine⟨aZ ae (t:=60) rfl,fun m cs x h hl hw=>?_⟩
 obtain⟨b0,e0,g0⟩:=aI (o:=0) (n:=1) Tryz.underlying60 h hw 0 rfl dH (by omega)
 obtain⟨b1,e1,g1⟩:=aI (o:=1) (n:=1) Tryz.underlying60 h hw 1 rfl bd (by omega)
 obtain⟨b2,e2,g2⟩:=aI (o:=2) (n:=1) Tryz.underlying60 h hw 2 rfl bd (by omega)
 obtain⟨b3,e3,g3⟩:=aI (o:=3) (n:=1) Tryz.underlying60 h hw 3 rfl bd (by omega)
 obtain⟨b4,e4,g4⟩:=aI (o:=4) (n:=1) Tryz.underlying60 h hw 4 rfl v8 (by omega)
 obtain⟨b5,e5,g5⟩:=aI (o:=5) (n:=1) Tryz.underlying60 h hw 5 rfl pC (by omega)
 obtain⟨b6,e6,g6⟩:=aI (o:=6) (n:=9) Tryz.underlying60 h hw 6 rfl kx (by omega)
 obtain⟨b7,e7,g7⟩:=aI (o:=15) (n:=9) Tryz.underlying60 h hw 7 rfl kx (by omega)
 exact⟨⟨b0,b1,b2,b3,b4.h,b4.l,b5.h,b5.l,b6,b7⟩,(List.drop_zero (l:=cs)).symm.trans (chain e0 (chain e1 (chain e2 (chain e3 (chain e4 (chain e5 (chain e6 (chain e7 (List.drop_eq_nil_of_le (by omega)))))))))),g4,g5⟩
theorem xL:Op enc w base spare held 62 23 (β:=Be) (dZ) (fun _=>True):=by
 refine⟨aZ ae (t:=62) rfl,fun m cs x h hl hw=>?_⟩
 obtain⟨b0,e0,g0⟩:=aI (o:=0) (n:=1) Tryz.underlying62 h hw 0 rfl dH (by omega)
 obtain⟨b1,e1,g1⟩:=aI (o:=1) (n:=1) Tryz.underlying62 h hw 1 rfl bd (by omega)
 obtain⟨b2,e2,g2⟩:=aI (o:=2) (n:=1) Tryz.underlying62 h hw 2 rfl bd (by omega)
 obtain⟨b3,e3,g3⟩:=aI (o:=3) (n:=1) Tryz.underlying62 h hw 3 rfl dH (by omega)
 obtain⟨b4,e4,g4⟩:=aI (o:=4) (n:=1) Tryz.underlying62 h hw 4 rfl dH (by omega)
 obtain⟨b5,e5,g5⟩:=aI (o:=5) (n:=9) Tryz.underlying62 h hw 5 rfl kx (by omega)
 obtain⟨b6,e6,g6⟩:=aI (o:=14) (n:=9) Tryz.underlying62 h hw 6 rfl kx (by omega)
 exact⟨⟨b0,b1,b2,b3,b4,b5,b6⟩,(List.drop_zero (l:=cs)).symm.trans (chain e0 (chain e1 (chain e2 (chain e3 (chain e4 (chain e5 (chain e6 (List.drop_eq_nil_of_le (by omega))))))))),trivial⟩
theorem zn:Op enc w base spare held 65 2 (β:=Int×Sl Al) (fun x=>[.int .i64 x.1,x.2.v]) (fun x=>lj w gu 16 (fun _=>True) x.2):=by
 refine⟨aZ ae (t:=65) rfl,fun m cs x h hl hw=>?_⟩
 obtain⟨b0,e0,g0⟩:=aI (o:=0) (n:=1) Tryz.underlying65 h hw 0 rfl bd (by omega)
 obtain⟨b1,e1,g1⟩:=aI (o:=1) (n:=1) Tryz.underlying65 h hw 1 rfl x8 (by omega)
 exact⟨⟨b0,b1⟩,(List.drop_zero (l:=cs)).symm.trans (chain e0 (chain e1 (List.drop_eq_nil_of_le (by omega)))),g1⟩
theorem yY:Op enc w base spare held 66 (5*1) (yi 5 bC) fun g=>∀ i,i<5→True:=ic Tryz.underlying66 (by kernel_rfl) eO
theorem xJ:Op enc w base spare held 26 (11*1) (yi 11 bC) fun g=>∀ i,i<11→True:=ic Tryz.underlying26 (by kernel_rfl) eO
instance:Inhabited gU:=⟨⟨0,0,0,false,false,false,0,default⟩⟩
theorem yJ:Op enc w base spare held 25 (32*8) (yi 32 fL) fun g=>∀ i,i<32→(g i).data.n≤140737488351232:=ic Tryz.underlying25 (by kernel_rfl) BF
theorem xN:Op enc w base spare held 45 (32*1) (yi 32 ld) fun g=>∀ i,i<32→lj w bT 24 (fun _=>True) (g i):=ic Tryz.underlying45 (by kernel_rfl) yZ
theorem C8:Op enc w base spare held 69 6 (β:=(Nat→Bool)×Sl qs) (fun x=>yi 5 bC x.1 ++ [x.2.v]) (fun x=>lj w cK 48 (fun _=>True) x.2):=by
 refine⟨aZ ae (t:=69) rfl,fun m cs x h hl hw=>?_⟩
 obtain⟨b0,e0,g0⟩:=aI (o:=0) (n:=5) Tryz.underlying69 h hw 0 rfl yY (by omega)
 obtain⟨b1,e1,g1⟩:=aI (o:=5) (n:=1) Tryz.underlying69 h hw 1 rfl yK (by omega)
 exact⟨⟨b0,b1⟩,(List.drop_zero (l:=cs)).symm.trans (chain e0 (chain e1 (List.drop_eq_nil_of_le (by omega)))),g1⟩
end
end Go.Proofs.YtlnhdpjnlffaoaaGreatDoor
namespace Go.Proofs.YtlnhdpjnlffaoaaGreatDoor
open Go Go.Sx Go.ChangeShapes Go.WideShapes
set_option maxRecDepth 100000
set_option maxHeartbeats 2000000
set_option linter.unusedVariables false
set_option linter.unusedSimpArgs false
structure BR (w:World) (s:bW):Prop where
 wide:s.Wide
 rows:s.Rows w∧s.nw.At aU w
 data : ∀ i,i<32→(s.T i).data.n≤140737488355328
 fly:s.lk.fly.length≤4398046511104
section
variable {H:Type} {enc:TypeId×Value→H} {w:World} {base:Nat} {spare:Nat→Bool} {held:Bool}
theorem zL:Op enc w base spare held 74 380 jN (BR w):=by
 refine⟨aZ ae (t:=74) rfl,fun m cs x h hl hw=>?_⟩
 obtain⟨b0,e0,g0⟩:=aI (o:=0) (n:=256) Tryz.underlying74 h hw 0 rfl yJ (by omega)
 obtain⟨b1,e1,g1⟩:=aI (o:=256) (n:=11) Tryz.underlying74 h hw 1 rfl xJ (by omega)
 obtain⟨b2,e2,g2⟩:=aI (o:=267) (n:=2) Tryz.underlying74 h hw 2 rfl yw (by omega)
 obtain⟨b3,e3,g3⟩:=aI (o:=269) (n:=2) Tryz.underlying74 h hw 3 rfl AN (by omega)
 obtain⟨b4,e4,g4⟩:=aI (o:=271) (n:=1) Tryz.underlying74 h hw 4 rfl xn (by omega)
 obtain⟨b5,e5,g5⟩:=aI (o:=272) (n:=1) Tryz.underlying74 h hw 5 rfl xZ (by omega)
 obtain⟨b6,e6,g6⟩:=aI (o:=273) (n:=1) Tryz.underlying74 h hw 6 rfl zD (by omega)
 obtain⟨b7,e7,g7⟩:=aI (o:=274) (n:=1) Tryz.underlying74 h hw 7 rfl Cx (by omega)
 obtain⟨b8,e8,g8⟩:=aI (o:=275) (n:=32) Tryz.underlying74 h hw 8 rfl xN (by omega)
 obtain⟨b9,e9,g9⟩:=aI (o:=307) (n:=1) Tryz.underlying74 h hw 9 rfl v7 (by omega)
 obtain⟨b10,e10,g10⟩:=aI (o:=308) (n:=10) Tryz.underlying74 h hw 10 rfl A2 (by omega)
 obtain⟨b11,e11,g11⟩:=aI (o:=318) (n:=4) Tryz.underlying74 h hw 11 rfl uE (by omega)
 obtain⟨b12,e12,g12⟩:=aI (o:=322) (n:=24) Tryz.underlying74 h hw 12 rfl Ab (by omega)
 obtain⟨b13,e13,g13⟩:=aI (o:=346) (n:=23) Tryz.underlying74 h hw 13 rfl xL (by omega)
 obtain⟨b14,e14,g14⟩:=aI (o:=369) (n:=2) Tryz.underlying74 h hw 14 rfl zn (by omega)
 obtain⟨b15,e15,g15⟩:=aI (o:=371) (n:=6) Tryz.underlying74 h hw 15 rfl C8 (by omega)
 obtain⟨b16,e16,g16⟩:=aI (o:=377) (n:=1) Tryz.underlying74 h hw 16 rfl wq (by omega)
 obtain⟨b17,e17,g17⟩:=aI (o:=378) (n:=1) Tryz.underlying74 h hw 17 rfl tj (by omega)
 obtain⟨b18,e18,g18⟩:=aI (o:=379) (n:=1) Tryz.underlying74 h hw 18 rfl zB (by omega)
 have hcs:cs=yi 32 fL b0++(yi 11 bC b1++([b2.1.v,b2.2.v]++([.int .i64 b3.1,b3.2.v]++(ld b4++(ld b5++(ld b6++(ld b7++(yi 32 ld b8++(ld b9++((b10.1.v::cE b10.2)++(rJ b11++(dO b12++(dZ b13++([.int .i64 b14.1,b14.2.v]++((yi 5 bC b15.1 ++ [b15.2.v])++(ld b16++(ld b17++(ld b18 ++ [])))))))))))))))))):=
  (List.drop_zero (l:=cs)).symm.trans (chain e0 (chain e1 (chain e2 (chain e3 (chain e4 (chain e5 (chain e6 (chain e7 (chain e8 (chain e9 (chain e10 (chain e11 (chain e12 (chain e13 (chain e14 (chain e15 (chain e16 (chain e17 (chain e18 (List.drop_eq_nil_of_le (by omega)))))))))))))))))))))
 refine⟨⟨b0,b1,b2.1,b2.2,b3.1,b3.2,b4,b5,b6,b7,b8,b9,b10.1,b10.2,b11,b12,b13,b14.1,b14.2,b15.1,b15.2,b16,b17,b18⟩,hcs.trans (by kernel_rfl),?_⟩
 have r7:=g7.row
 have r10:=g10.row
 have r12:=g12.2.row
 have r6:=g6.row
 rw[DA] at r7 r10 r12
 rw[Dh] at r6
 refine⟨⟨g2.1.ok (by decide),g2.2.ok (by decide),g3.ok (by decide),g4.ok (by decide),g5.ok (by decide),g6.ok (by decide),g7.ok (by decide),fun i hi=>(g8 i hi).ok (by decide),g9.ok (by decide),g10.ok (by decide),g12.1.h,(g12.1.ok (by decide)).le,g12.2.h,(g12.2.ok (by decide)).le,g14.ok (by decide),g15.ok (by decide),g16.ok (by decide),g17.ok (by decide),g18.ok (by decide)⟩,
  ⟨⟨g2.1.row,g2.2.row,g3.row,g4.row,g5.row,r6,r7,fun i hi=>(g8 i hi).row,g9.row,r10,g12.1.row,r12,g14.row,g15.row,g16.row,g17.row⟩,g18.row⟩,fun i hi=>Nat.le_trans (g0 i hi) (by decide),?_⟩
 have:=g12.1.sz
 show b12.fly.length≤_
 have h1:b12.fly.length*32≤140737488351232:=this
 omega
end
end Go.Proofs.YtlnhdpjnlffaoaaGreatDoor
namespace Go.Proofs.YtlnhdpjnlffaoaaGreatDoor
open Go Go.Sx Go.ChangeShapes Go.WideShapes
set_option maxRecDepth 100000
set_option maxHeartbeats 2000000
set_option linter.unusedVariables false
set_option linter.unusedSimpArgs false
def DK (x:Fm):DataW Unit:=.agg [.lit (.int .i64 x.fr),.lit (.int .i64 x.to),.lit (.string x.args),.lit (.int .i64 x.data)]
def ED:DataW Unit→Fm
 | .agg [.lit (.int .i64 a),.lit (.int .i64 b),.lit (.string l),.lit (.int .i64 c)]=>⟨a,b,l,c⟩
 | _=>⟨0,0,[],0⟩
theorem AI (x:Fm):ED (DK x)=x:=rfl
section
variable {enc:TypeId×Value→Unit} {w:World} {base:Nat} {spare:Nat→Bool} {held:Bool}
theorem wz {n:Nat} {cs:List Value} (hl:cs.length=4) {x:DataW Unit×List MemPlace} (h:DataW.trod enc Tryz.prog w base spare held n 339 cs=some x) : ∃ b:Fm,cs=zX b∧x.1=DK b:=by
 obtain⟨xs,m,_,hx,_,hxl,hel⟩:=DataW.trod_struct Tryz.underlying339 h
 have c3:Tryz.prog.cellsOf 3=1:=aZ ae (t:=3) rfl
 have c9:Tryz.prog.cellsOf 9=1:=aZ ae (t:=9) rfl
 obtain⟨x0,x1,x2,x3,rfl⟩ : ∃ a b c d,cs = [a,b,c,d]:=by
  rcases cs with _ | ⟨a,_ | ⟨b,_ | ⟨c,_ | ⟨d,_ | ⟨e,r⟩⟩⟩⟩⟩<;>simp at hl
  exact⟨a,b,c,d,rfl⟩
 obtain⟨y0,y1,y2,y3,rfl⟩ : ∃ a b c d,xs = [a,b,c,d]:=by
  rcases xs with _ | ⟨a,_ | ⟨b,_ | ⟨c,_ | ⟨d,_ | ⟨e,r⟩⟩⟩⟩⟩<;>simp at hxl
  exact⟨a,b,c,d,rfl⟩
 have h0:DataW.trod enc Tryz.prog w base spare held m 3 (List.take (Tryz.prog.cellsOf 3) [x0,x1,x2,x3])=some y0:=hel 0 _ rfl
 have h1:DataW.trod enc Tryz.prog w base spare held m 3 (List.take (Tryz.prog.cellsOf 3) [x1,x2,x3])=some y1:=hel 1 _ rfl
 have h2:DataW.trod enc Tryz.prog w base spare held m 9 (List.take (Tryz.prog.cellsOf 9) [x2,x3])=some y2:=hel 2 _ rfl
 have h3:DataW.trod enc Tryz.prog w base spare held m 3 (List.take (Tryz.prog.cellsOf 3) [x3])=some y3:=hel 3 _ rfl
 rw[c3] at h0 h1 h3
 rw[c9] at h2
 obtain⟨z0,e0,f0,_⟩:=DataW.trod_int Tryz.underlying3 (x:=y0) h0
 obtain⟨z1,e1,f1,_⟩:=DataW.trod_int Tryz.underlying3 (x:=y1) h1
 obtain⟨z2,e2,f2,_⟩:=DataW.trod_string Tryz.underlying9 (x:=y2) h2
 obtain⟨z3,e3,f3,_⟩:=DataW.trod_int Tryz.underlying3 (x:=y3) h3
 cases e0
 cases e1
 cases e2
 cases e3
 subst f0 f1 f2 f3
 refine⟨⟨z0,z1,z2.data.toList,z3⟩,rfl,?_⟩
 rw[hx]
 rfl
theorem uW {n:Nat} {cs:List Value} (hl:cs.length=112) {x:DataW Unit×List MemPlace} (h:DataW.trod enc Tryz.prog w base spare held n 340 cs=some x) (hx:x.1=Rows.laid_ratoon_message_forms):cs=cv.flatMap zX:=by
 obtain⟨xs,m,_,hxx,_,hxl,hel⟩:=DataW.trod_array Tryz.underlying340 h
 have c4:Tryz.prog.cellsOf 339=4:=aZ ae (t:=339) rfl
 have hp : ∀ i,i<28→∃ b:Fm,(cs.drop (i*4)).take 4=zX b∧(xs[i]?).map (·.1)=some (DK b):=fun i hi=>by
  have h1:=hel i hi
  rw[c4,List.getElem?_eq_getElem (by omega)] at h1
  obtain⟨b,h2,h3⟩:=wz (by rw[List.length_take,List.length_drop];omega) h1
  exact⟨b,h2,by rw[List.getElem?_eq_getElem (by omega),Option.map_some,h3]⟩
 obtain⟨l,hll,hq⟩:=nM 28 hp
 have hd:xs.map (·.1)=l.map DK:=by
  apply List.ext_getElem?
  intro i
  rw[List.getElem?_map,List.getElem?_map]
  by_cases hi:i<l.length
  · rw[(hq i hi).2,List.getElem?_eq_getElem hi]
    rfl
  · rw[List.getElem?_eq_none (by omega),List.getElem?_eq_none (by omega)]
    rfl
 have hL:l=cv:=by
  rw[hxx] at hx
  have h1:DataW.agg (l.map DK)=Rows.laid_ratoon_message_forms:=by rw[← hd];exact hx
  have h2 : ∀ d:DataW Unit,d=Rows.laid_ratoon_message_forms→(match d with | .agg p=>p.map ED | _=>[])=cv:=fun d hd=>by rw[hd];rfl
  have h3:=h2 _ h1
  dsimp only at h3
  rw[List.map_map] at h3
  rw[← h3]
  conv=>lhs;rw[← List.map_id l]
  exact List.map_congr_left fun x _=>(AI x).symm
 have key : ∀ j,j≤28→cs.take (j*4)=(l.take j).flatMap zX:=by
  intro j
  induction j with
  | zero=>intro _;simp
  | succ j ih=>
   intro hj
   rw[List.take_succ_eq_append_getElem (by omega),List.flatMap_append,← ih (by omega),Nat.succ_mul,List.take_add,(hq j (by omega)).1]
   simp
 have:=key 28 (Nat.le_refl _)
 rw[List.take_of_length_le (by omega),List.take_of_length_le (by omega),hL] at this
 exact this
end
end Go.Proofs.YtlnhdpjnlffaoaaGreatDoor
