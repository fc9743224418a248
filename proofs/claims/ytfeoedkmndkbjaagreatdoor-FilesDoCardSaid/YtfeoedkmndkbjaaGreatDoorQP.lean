/- Parts of the proof: SxZ. -/
import Derived.Test.YtfeoedkmndkbjaaGreatDoorQC
import Derived.ProofKit
import Derived.OpenShut
import Derived.ChangeReads
import Derived.ReadAgain
import Derived.ChangeBears
namespace Go.Sx
open Go Go.ChangeShapes Go.WideShapes Go.ChangeAt Go.RowKit
set_option linter.unusedVariables false
section
variable {H:Type} {enc:TypeId×Value→H} {P:Program} {w:World} {base:Nat} {spare:Nat→Bool} {held:Bool}
theorem As {t:TypeId} {fs:Array Field} {n:Nat} {cs:List Value} {x:DataW H×List MemPlace} (ht:P.underlying t=some (.struct fs)) (h:DataW.trod enc P w base spare held n t cs=some x)
 (i:Nat) {f:Field} (hf:fs[i]? = some f) : ∃ m y,DataW.trod enc P w base spare held m f.type ((cs.drop f.offset).take (P.cellsOf f.type))=some y:=by
 obtain⟨xs,m,_,_,_,hl,hx⟩:=DataW.trod_struct ht h
 have hi:i<xs.length:=by
  rw[hl]
  exact(Array.getElem?_eq_some_iff.1 hf).1
 exact⟨m,xs[i],by rw[hx i f hf];exact List.getElem?_eq_getElem hi⟩
theorem iL {t:TypeId} {fs:Array Field} {n:Nat} {cs:List Value} {x:DataW H×List MemPlace} (ht:P.underlying t=some (.struct fs)) (h:DataW.trod enc P w base spare held n t cs=some x)
 (i:Nat) {u:TypeId} {o c:Nat} (hf:(fs[i]?).map (fun f=>(f.type,f.offset))=some (u,o)) (hc:P.cellsOf u=c) : ∃ m y,DataW.trod enc P w base spare held m u ((cs.drop o).take c)=some y:=by
 cases hg:fs[i]? with
 | none=>rw[hg] at hf;cases hf
 | some f=>
  rw[hg] at hf
  cases hf
  subst hc
  exact As ht h i hg
theorem eD {aK:fk} (hT:bn P aK) {t:TypeId} {ti:TI} (ht:look aK t=some ti):P.cellsOf t=ti.size:=by
 obtain⟨i1,d1,z1,p1,p2,p3,p4,p5,p6,p7,p8⟩:=aA (hT _ _ ht)
 unfold Program.cellsOf
 rw[p1,p5]
 rfl
theorem CC {n:Int} (h:(Lit.int .u8 n).wf=true) : ∃ x:UInt8,Value.int .u8 n=ao x:=by
 have h2:=bounds_u8 h
 refine⟨UInt8.ofNat n.toNat,?_⟩
 unfold ao
 congr 1
 have:(UInt8.ofNat n.toNat).toNat=n.toNat%256:=rfl
 rw[this]
 omega
theorem y6 {α:Type} {p:Nat→α→Prop} : ∀ (n:Nat),(∀ i,i<n→∃ x,p i x)→∃ l:List α,l.length=n∧∀ i (h:i<l.length),p i l[i]
 | 0,_=>⟨[],rfl,fun i h=>by simp at h⟩
 | n+1,h=>by
  obtain⟨l,hl,hp⟩:=y6 n (fun i hi=>h i (by omega))
  obtain⟨x,hx⟩:=h n (by omega)
  refine⟨l ++ [x],by simp[hl],fun i hi=>?_⟩
  rw[List.getElem_append]
  split
  · exact hp i _
  · have:i=n:=by simp at hi;omega
    subst this
    simpa using hx
theorem oH {α:Type} {n:Nat} : ∀ {L:List (List α)},(∀ c∈L,c.length=n)→L.flatten.length=L.length*n
 | [],_=>by simp
 | x::L,h=>by
  have h1:=h x (by simp)
  have h2:=oH (L:=L) fun c hc=>h c (by simp[hc])
  simp only[List.flatten_cons,List.length_append,List.length_cons,Nat.succ_mul,h1,h2]
  omega
theorem rn {α:Type} {n:Nat} : ∀ {L:List (List α)},(∀ c∈L,c.length=n)→∀ {i:Nat} (hi:i<L.length) {j:Nat},j<n→L.flatten[i*n+j]? = L[i][j]?
 | [],_,i,hi,_,_=>by simp at hi
 | x::L,h,0,hi,j,hj=>by
  have h1:=h x (by simp)
  simp only[List.flatten_cons,Nat.zero_mul,Nat.zero_add]
  rw[List.getElem?_append_left (by omega)]
  rfl
 | x::L,h,i+1,hi,j,hj=>by
  have h1:=h x (by simp)
  have h2:=rn (L:=L) (fun c hc=>h c (by simp[hc])) (i:=i) (by simpa using hi) hj
  simp only[List.flatten_cons,List.getElem_cons_succ]
  rw[← h2,Nat.succ_mul,List.getElem?_append_right (by omega)]
  congr 1
  omega
theorem rP {t e:TypeId} {n sz:Nat} {v:Value} {x:DataW H×List MemPlace} (ht:P.underlying t=some (.slice e)) (hs:P.cellsOf e=sz) (hsz:0<sz)
 (h:DataW.trod enc P w base spare held n t [v]=some x) : ∃ (k:Hd) (L:List (List Value)),v=k.v L.length∧k.Ok L.length∧aB w k.a L.flatten∧
  (∀ c∈L,c.length=sz∧∃ m y,DataW.trod enc P w base spare held m e c=some y)∧(L = []∨∃ el sp,x.1 = .slice el sp∧el.length=L.length):=by
 rcases DataW.trod_slice ht h with⟨h1,_⟩ | ⟨a,len,cap,elems,rest,m,_,h1,hx,_,hle,_,hel,hat,_,_⟩
 · cases h1
   exact⟨Hd.nil,[],rfl,Hd.dq,rfl,by simp,.inl rfl⟩
 · cases h1
   have hcell : ∀ i,i<len→∃ c:List Value,c.length=sz∧(∀ j,j<sz→w.cell? ((a.add (i*sz)).add j)=c[j]?)∧∃ m y,DataW.trod enc P w base spare held m e c=some y:=by
    intro i hi
    have h2:=hat i hi
    rw[hs,List.getElem?_eq_getElem (by omega)] at h2
    cases hcs:w.cells? base (a.add (i*sz)) sz with
    | none=>rw[hcs] at h2;cases h2
    | some cs=>
     rw[hcs] at h2
     obtain⟨_,h4,h3⟩:=World.cells?_some hcs
     exact⟨cs,h4,h3,m,_,h2⟩
   obtain⟨L,hl,hp⟩:=y6 len hcell
   have hlen : ∀ c∈L,c.length=sz:=fun c hc=>by
    obtain⟨i,hi,rfl⟩:=List.getElem_of_mem hc
    exact(hp i hi).1
   refine⟨⟨some a,cap⟩,L,by simp[Hd.v,hl],⟨by simp,by simpa [hl] using hle⟩,?_,fun c hc=>?_,.inr ⟨_,_,by rw[hx],by simp[hel,hl]⟩⟩
   · rcases Nat.eq_zero_or_pos len with h0 | h0
     · have:L = []:=List.eq_nil_of_length_eq_zero (by omega)
       subst this
       exact .inl rfl
     · have hl0:0<L.length:=by omega
       have c0:=(hp 0 hl0).2.1 0 hsz
       have z0:(a.add (0*sz)).add 0=a:=by simp[Addr.add]
       rw[z0,List.getElem?_eq_getElem (by rw[(hp 0 hl0).1];exact hsz)] at c0
       have hh:a.spot=none∧∃ arr e fz,w.heap[a.block]? = some (.cells arr e fz):=by
        unfold World.cell? at c0
        split at c0
        · rename_i c el fz hb
          split at c0
          · cases c0
          · rename_i hsp
            exact⟨by cases hq:a.spot<;>simp_all,c,el,fz,hb⟩
        · cases c0
       obtain⟨hsp,arr,el,fz,hb⟩:=hh
       refine .inr ⟨hsp,arr,el,fz,hb,fun j hj=>?_⟩
       rw[oH hlen] at hj
       have hq:j/sz<L.length:=(Nat.div_lt_iff_lt_mul hsz).2 hj
       have hr:j%sz<sz:=Nat.mod_lt _ hsz
       have e1:j/sz*sz+j%sz=j:=by rw[Nat.mul_comm];exact Nat.div_add_mod j sz
       have h5:=(hp _ hq).2.1 _ hr
       rw[Addr.dE hsp,e1] at h5
       have h6:=rn hlen hq hr
       rw[e1] at h6
       rw[h6,← h5]
       obtain⟨b,o,sp⟩:=a
       simp only at hsp hb
       subst hsp
       rw[Addr.aV]
       simp[World.cell?,hb]
   · obtain⟨i,hi,rfl⟩:=List.getElem_of_mem hc
     exact⟨(hp i hi).1,(hp i hi).2.2⟩
theorem uK {α β:Type} {f:β→α} {good:β→Prop} : ∀ {L:List α},(∀ c∈L,∃ p,c=f p∧good p)→∃ l:List β,L=l.map f∧∀ p∈l,good p
 | [],_=>⟨[],rfl,by simp⟩
 | x::L,h=>by
  obtain⟨p,hp,hg⟩:=h x (by simp)
  obtain⟨l,hl,hq⟩:=uK (L:=L) fun c hc=>h c (by simp[hc])
  refine⟨p::l,by simp[hp,hl],fun q hq'=>?_⟩
  rcases List.mem_cons.1 hq' with rfl | h1
  · exact hg
  · exact hq q h1
theorem mR : ∀ (l:List UInt8),(l.map fun y:UInt8=>[ao y]).flatten=l.map ao
 | []=>rfl
 | a::l=>by simp[mR l]
theorem rR {t e:TypeId} {n:Nat} {v:Value} {x:DataW H×List MemPlace} (ht:P.underlying t=some (.slice e)) (he:P.underlying e=some (.int .u8)) (hs:P.cellsOf e=1)
 (h:DataW.trod enc P w base spare held n t [v]=some x) : ∃ (k:Hd) (l:List UInt8),v=k.v l.length∧k.Ok l.length∧By w k l:=by
 obtain⟨k,L,rfl,hk,hr,hc,_⟩:=rP ht hs (by decide) h
 obtain⟨l,rfl,_⟩:=uK (f:=fun y:UInt8=>[ao y]) (good:=fun _=>True) (L:=L) fun c hcm=>by
  obtain⟨hl,m,y,hy⟩:=hc c hcm
  obtain⟨z,rfl,_,hw⟩:=DataW.trod_int he hy
  obtain⟨y,hy⟩:=CC hw
  exact⟨y,by rw[hy],trivial⟩
 rw[mR] at hr
 exact⟨k,l,by simp,by simpa using hk,hr⟩
theorem agree {P:World→Prop} {W:World} (h:P W) (hl : ∀ w',(∀ b,b<W.heap.size→w'.heap[b]? = W.heap[b]?)→P w'):Holds (fun _=>False) W P:=
 ⟨fun b=>b<W.heap.size,fun b hb=>⟨hb,id⟩,hl⟩
theorem aB.agree {W w':World} {a:Option Addr} {L:List Value} (h:aB W a L) (hw : ∀ b,b<W.heap.size→w'.heap[b]? = W.heap[b]?):aB w' a L:=by
 cases a with
 | none=>exact h
 | some ad=>
  rcases h with rfl | ⟨h1,arr,e,fz,h2,h3⟩
  · exact .inl rfl
  exact .inr ⟨h1,arr,e,fz,by rw[hw _ (Array.getElem?_eq_some_iff.1 h2).1];exact h2,h3⟩
theorem By.agree {W w':World} {k:Hd} {l:List UInt8} (h:By W k l) (hw : ∀ b,b<W.heap.size→w'.heap[b]? = W.heap[b]?):By w' k l:=aB.agree h hw
end
section
variable {H:Type} {enc:TypeId×Value→H} {P:Program}
theorem af.run {f:FuncId} {vs:List Value} {Pre:World→Prop} {Rel:Value→Fx→Prop} (h:af P f vs Pre Rel) {w:World} (hp:Holds (fun _=>False) w Pre) :
 Calls P f vs.toArray w fun e w'=>∃ v F,e = .returned v∧fE w w'∧Rel v F:=by
 unfold af at h
 refine(h.2 _ w (fun _ h=>h.elim) hp).mono ?_
 rintro e w' ⟨v,F,h1,h2,_,h3⟩
 exact⟨v,F,h1,h2,h3⟩
theorem fE.kept {W W':World} (h:fE W W') (may:MemPlace→Prop):W.keptBut W' may:=by
 refine⟨h.os,h.output,fun i hi=>?_⟩
 rw[h.same hi]
 cases W.heap[i]? with
 | none=>rfl
 | some o=>cases o with
  | cells c t fr=>exact⟨rfl,rfl,rfl,fun _ _=>rfl⟩
  | map es clock=>exact .inr ⟨rfl,rfl⟩
  | _=>rfl
theorem fE.place {W W':World} (h:fE W W') {p:MemPlace} (hp:p.block<W.heap.size):W.sameAt W' p:=by
 cases p with
 | cell b o=>
  show W'.cell? _=W.cell? _
  unfold World.cell?
  have e:W'.heap[b]? = W.heap[b]?:=h.same hp
  simp only[e]
 | map b=>exact h.same hp
theorem lU {W W':World} {sp:Nat→Bool} {hd:Bool} (hs : ∀ p:MemPlace,p.block<W.heap.size→W.sameAt W' p) :
 ∀ {ts:List TypeId} {vs:List Value} {ds:List (DataW H)} {ps:List MemPlace},DataW.TrodAll enc P W 0 sp hd ts vs ds ps→DataW.TrodAll enc P W' 0 sp hd ts vs ds ps
 | [],[],[],_,h=>h
 | _::_,_::_,_::_,_,⟨p,q,⟨n,h1⟩,h2,e⟩=>⟨p,q,⟨n,DataW.trod_carry n _ _ _ h1 fun x hx=>hs x (DataW.trod_lt n _ _ _ h1 x hx)⟩,lU hs h2,e⟩
theorem BU {f:Func} {s:ChangeSpec} {apart fresh handsOn again:Bool} {W W':World} {args:Array Value} {ds gs:List (DataW H)} {before:List MemPlace} {tb:TypeId}
 (hag:again=false) (hvar:s.vars = []) (hfn:s.fn H ds={ results:=[.lit (.bool true)],args:=ds }) (hrt:f.resultTypes = #[tb]) (htb:P.underlying tb=some .bool)
 (hl:laidOutB P=true) (hm:mapsRowed P=true) (hz:((List.range P.types.size).all fun t=>match P.underlying t with | some (.slice e)=>decide (0<P.cellsOf e) | _=>true)=true)
 (hts : ∀ t∈f.params.toList,t<P.types.size)
 (hW:DataW.Whole enc P f.params.toList s.vars apart W args.toList ds gs before) (hk:fE W W'):s.post enc P f apart fresh handsOn again W args (.bool true) W':=by
 have hW':=hW
 obtain⟨p,q,hA,hV,rfl,hfz,hnd⟩:=hW
 rw[hvar] at hV
 obtain⟨rfl,rfl⟩:=trodVars_none hV
 have hlt:=hA.lt
 have hargs : ∀ sp:Nat→Bool,(∀ x∈p,sp x.block=true)→DataW.TrodAll enc P W' 0 sp true f.params.toList args.toList ds p:=fun sp hsp=>
  lU (fun x hx=>hk.place hx) (DataW.TrodAll.respare (kids_rows hl hm) (slices_full_of P hz) hts hA hsp)
 have hres : ∀ (b:Nat) (sp:Nat→Bool) (hd:Bool),DataW.TrodAll enc P W' b sp hd f.resultTypes.toList ((Value.bool true).resultList f.resultTypes.size) [.lit (.bool true)] []:=by
  intro b sp hd
  rw[hrt]
  exact trodAll_cons_mk (shut_bool htb _) trodAll_mk0
 rw[List.append_nil] at hfz hnd
 refine⟨ds,[],p ++ [],[],p,[],hW',?_,?_,?_,hk.kept _,fun h=>by rw[hag] at h;cases h⟩
 · rw[List.append_nil,hfn];exact hres _ _ _
 · rw[List.append_nil,hfn];exact hargs _ fun x hx=>by simpa using hlt x hx
 · rw[List.append_nil,hfn,hvar];rfl
end
end Go.Sx
