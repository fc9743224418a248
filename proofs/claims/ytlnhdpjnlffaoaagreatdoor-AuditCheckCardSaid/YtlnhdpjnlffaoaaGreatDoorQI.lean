/- Parts of the proof: SyR, SyS. -/
import Derived.Test.YtlnhdpjnlffaoaaGreatDoorQG
namespace Go.Sx
set_option linter.unusedVariables false
section
variable {P:Program} {aY:er} {w0:World} {R:Nat→Nat→Prop} {av:Nat→Prop}
def yh (n k:Nat):SV→SV
 | .p i o=>match Nat.beq i n with
  | true=>.p k o
  | false=>match Nat.blt i k with
   | true=>.p i o
   | false=>.any
 | .v x=>.v x
 | _=>.any
theorem wG {n k:Nat} : ∀ (l:List SV) (t:Nat),nth .any (l.map (yh n k)) t=yh n k (nth .any l t)
 | [],_=>rfl
 | _::_,0=>rfl
 | _::xs,t+1=>wG xs t
theorem a_.yh {bs0 ex:List (Nat×Nat)} {tm:List SV} {a:Array Value} {n:Nat} (h:a_ (bs0++ex) tm a) (hn:n<(bs0++ex).length) :
 a_ (bs0 ++ [nth (0,0) (bs0++ex) n]) (tm.map (yh n bs0.length)) a:=by
 refine⟨by rw[List.length_map];exact h.len,fun t=>?_⟩
 rw[wG]
 have ho:=h.ok t
 cases hs:nth SV.any tm t with
 | v x=>rw[hs] at ho;exact ho
 | any=>exact trivial
 | g c p x=>exact trivial
 | p i o=>
  rw[hs] at ho
  obtain⟨h1,h2⟩:=ho
  cases hb:Nat.beq i n with
  | true=>
   have:=Nat.eq_of_beq_eq_true hb
   subst this
   rw[show Sx.yh i bs0.length (.p i o) = .p bs0.length o from by simp only[Sx.yh,hb]]
   refine⟨?_,by simp⟩
   rw[h1]
   unfold ptr
   have:nth (0,0) (bs0 ++ [nth (0,0) (bs0++ex) i]) bs0.length=nth (0,0) (bs0++ex) i:=by
    rw[bw (0,0) (bs0 ++ [_])]
    simp
   rw[this]
  | false=>
   cases hl:Nat.blt i bs0.length with
   | false=>
    rw[show Sx.yh n bs0.length (.p i o) = .any from by simp only[Sx.yh,hb,hl]]
    exact trivial
   | true=>
    rw[show Sx.yh n bs0.length (.p i o) = .p i o from by simp only[Sx.yh,hb,hl]]
    have hi:i<bs0.length:=by simpa [Nat.blt_eq] using hl
    refine⟨?_,by simp;omega⟩
    rw[h1]
    unfold ptr
    rw[bV _ _ _ _ hi,bV _ _ _ _ hi]
theorem r_ {bs0 ex:List (Nat×Nat)} {n:Nat} (h0:bs0.length≤n) (hn:n<(bs0++ex).length):nth (0,0) (bs0++ex) n∈ex:=by
 rw[bw,List.getElem?_append_right h0]
 have:n - bs0.length<ex.length:=by simp at hn;omega
 rw[List.getElem?_eq_getElem this]
 exact List.getElem_mem this
theorem St.pick {w:World} {bs0 ex:List (Nat×Nat)} {cs0 fx:List (List Value)} {D:Fx} {n:Nat} (h:St w0 R av w (bs0++ex) (cs0++fx) D) (hl:bs0.length=cs0.length)
 (h0:bs0.length≤n) (hn:n<(bs0++ex).length):St w0 R av w (bs0 ++ [nth (0,0) (bs0++ex) n]) (cs0 ++ [nth [] (cs0++fx) n]) D:=by
 have hm:=r_ h0 hn
 have hlen:=h.box.len
 have hs : [nth (0,0) (bs0++ex) n].Sublist ex:=List.singleton_sublist.2 hm
 refine⟨h.keep,cB.snoc (cB.get h.box n (by omega)).1 (h.box.left hl),?_,fun i hi=>?_,h.avlt,h.rows,h.data.less fun b hb=>?_⟩
 · exact h.nd.sublist (List.Sublist.append ((List.Sublist.append (List.Sublist.refl _) hs).map _) (List.Sublist.refl _))
 · by_cases hb:i<bs0.length
   · have:=h.own i (by simp;omega)
     rw[bV _ _ _ _ hb,bV _ _ _ _ (by omega)] at this ⊢
     exact this
   · have hie:i=bs0.length:=by simp at hi;omega
     have e1:nth (0,0) (bs0 ++ [nth (0,0) (bs0++ex) n]) i=nth (0,0) (bs0++ex) n:=by
      rw[hie,bw (0,0) (bs0 ++ [_])]
      simp
     have e2:nth [] (cs0 ++ [nth [] (cs0++fx) n]) i=nth [] (cs0++fx) n:=by
      rw[hie,hl,bw [] (cs0 ++ [_])]
      simp
     rw[e1,e2]
     exact h.own n hn
 · rcases hb with hb | ⟨x,hx,rfl⟩ | hb
   · exact .inl hb
   · rcases List.mem_append.1 hx with hx | hx
     · exact .inr (.inl ⟨x,List.mem_append_left _ hx,rfl⟩)
     · obtain rfl:=List.mem_singleton.1 hx
       exact .inr (.inl ⟨_,List.mem_append_right _ hm,rfl⟩)
   · exact .inr (.inr hb)
def CL {ι:Type} (I:ι→Prop) (vals:ι→List (Nat×SV)) (csI:ι→List (List Value)) (cI:ι→List Value) (DI:ι→Fx) (μ:ι→Nat) (i:ι) (tm0:List SV) (bs0:List (Nat×Nat)) (K:Exit→KT):Exit→KT:=
 fun e tm' bs' cs' D'=>match e with
  | .normal=>∃ i',(I i'∧μ i'<μ i)∧∃ n,(bs0.length≤n∧n<bs'.length∧nth [] cs' n=cI i')∧(gZ (vals i') tm0 fun t=>au (tm'.map (yh n bs0.length)) t)∧xz bs' cs' bs0 (csI i')∧ax D' (DI i')
  | e=>K e tm' bs' cs' D'
theorem az.Df (hT:bB P aY) {ι:Type} {body:Code} {tm:List SV} {bs0:List (Nat×Nat)} {b0 o0:Nat} {cs:List (List Value)} {D:Fx} {K:Exit→KT} (A:List Nat) (I:ι→Prop)
 (vals:ι→List (Nat×SV)) (csI:ι→List (List Value)) (cI:ι→List Value) (DI:ι→Fx) (μ:ι→Nat) (i0:ι) (h0:I i0)
 (start:ff A tm 0 fun tm0=>gZ (vals i0) tm0 fun tm1=>au tm tm1) (hcs:cs=csI i0 ++ [cI i0]) (hD:ax D (DI i0))
 (round : ∀ i,I i→∀ b o,ff A tm 0 fun tm0=>gZ (vals i) tm0 fun tm1=>xc P aY w0 R av body tm1 (bs0 ++ [(b,o)]) (csI i ++ [cI i]) (DI i) (CL I vals csI cI DI μ i tm0 bs0 K)) :
 az P w0 R av (.loop body) tm (bs0 ++ [(b0,o0)]) cs D K:=by
 obtain⟨tm0,start,htm0⟩:=iN start
 refine bU.2 fun a w hf hst=>?_
 refine wp_loop_ghost (ι:=ι) (fun i act w=>I i∧act.defers = []∧∃ b o,(∃ tmi,a_ (bs0 ++ [(b,o)]) tmi act.tmps∧∀ K',gZ (vals i) tm0 K'→K' tmi)∧St w0 R av w (bs0 ++ [(b,o)]) (csI i ++ [cI i]) (DI i)) μ i0 ?_ ?_
 · obtain⟨m,h1,h2⟩:=hU start
   refine⟨h0,rfl,b0,o0,⟨m,h1.ok hf,h2⟩,?_⟩
   rw[← hcs]
   exact hst.bZ hD
 · rintro i act w ⟨hI,hd,b,o,⟨tmi,hfi,hmi⟩,hsti⟩
   have hx:=hmi _ (htm0 _ (round i hI b o))
   rw[gE hd]
   refine wp_mono (ga hT body _ _ _ _ _ _ _ hx hfi hsti) ?_
   rintro e act' w' ⟨hd',tm',bs',cs',D',h1,h2,h3⟩
   cases e with
   | normal=>
    obtain⟨i',⟨hi1,hi2⟩,n,⟨hn0,hn1,hn2⟩,hs,hbl,hDD⟩:=h3
    obtain⟨m,hm1,hm2⟩:=hU hs
    obtain⟨ex,fx,rfl,rfl,hl⟩:=hbl.parts h2.box.len.symm
    have hm:=hm1.ok (h1.yh hn1)
    have hst:=h2.pick hl hn0 hn1
    rw[hn2] at hst
    obtain⟨b',o',he⟩ : ∃ b' o',nth (0,0) (bs0++ex) n=(b',o'):=⟨_,_,rfl⟩
    rw[he] at hm hst
    exact⟨i',⟨hi1,hd',b',o',⟨m,hm,hm2⟩,hst.bZ hDD⟩,hi2⟩
   | _=>exact⟨hd',tm',bs',cs',D',h1,h2,h3⟩
end
end Go.Sx
namespace Go.Sx
open Go
set_option linter.unusedVariables false
section
variable {P:Program}
def Cq:Value→Value→Bool
 | .int _ a,.int _ b=>a == b
 | .bool a,.bool b=>a == b
 | _,_=>false
def fj:List Value→List Value→Bool
 | [],[]=>true
 | x::xs,y::ys=>Cq x y&&fj xs ys
 | _,_=>false
def rr (P:Program):List Field→Nat→List Value→List Value→Prop
 | [],_,[],[]=>True
 | f::fs,k,x::xs,y::ys=>(f.name≠"_"∧f.offset=k∧((P.underlying f.type=some (.int .i64)∧∃ a b,x = .int .i64 a∧y = .int .i64 b)∨(P.underlying f.type=some .bool∧∃ a b,x = .bool a∧y = .bool b)))∧rr P fs (k+1) xs ys
 | _,_,_,_=>False
theorem f_ {d:Nat} {X Y:List Value} (w:World) : ∀ (fs:List Field) (k:Nat) (xs ys:List Value),X.drop k=xs→Y.drop k=ys→rr P fs k xs ys→(Op.eqFields (d+1) ⟨X⟩ ⟨Y⟩ fs).run P w = .ok (fj xs ys) w
 | [],k,[],[],_,_,_=>by simp[Op.eqFields,fj]
 | f::fs,k,x::xs,y::ys,hx,hy,h=>by
  obtain⟨⟨hn,ho,hu⟩,hr⟩:=h
  have px:(⟨X⟩:Array Value)[f.offset]? = some x:=by
   rw[ho,List.getElem?_toArray]
   have:=congrArg (·[0]?) hx
   simpa using this
  have py:(⟨Y⟩:Array Value)[f.offset]? = some y:=by
   rw[ho,List.getElem?_toArray]
   have:=congrArg (·[0]?) hy
   simpa using this
  have hx':X.drop (k+1)=xs:=by
   have:=congrArg (List.drop 1) hx
   simpa using this
  have hy':Y.drop (k+1)=ys:=by
   have:=congrArg (List.drop 1) hy
   simpa using this
  have ih:=f_ (d:=d) w fs (k+1) xs ys hx' hy' hr
  unfold Op.eqFields
  rcases hu with⟨hu,a,b,rfl,rfl⟩ | ⟨hu,a,b,rfl,rfl⟩
  · rw[if_pos hn,an (dM hu rfl px w),an (dM hu rfl py w),an (run_equalIn_int w d f.type .i64 .i64 _ _ hu)]
    show _=Result.ok ((a == b)&&fj xs ys) w
    cases hb:(a == b) with
    | true=>
     simp only[Bool.not_true,Bool.false_eq_true,if_false,Bool.true_and]
     exact ih
    | false=>simp
  · rw[if_pos hn,an (dM hu rfl px w),an (dM hu rfl py w),an (run_equalIn_bool (P:=P) hu d a b w)]
    show _=Result.ok ((a == b)&&fj xs ys) w
    cases hb:(a == b) with
    | true=>
     simp only[Bool.not_true,Bool.false_eq_true,if_false,Bool.true_and]
     exact ih
    | false=>simp
 | [],_,_::_,_,_,_,h=>h.elim
 | [],_,[],_::_,_,_,h=>h.elim
 | _::_,_,[],_,_,_,h=>h.elim
 | _::_,_,_::_,[],_,_,h=>h.elim
variable {aY:er} {w0:World} {R:Nat→Nat→Prop} {av:Nat→Prop} {bs:List (Nat×Nat)} {cs:List (List Value)} {F:Fx}
theorem na {t:TypeId} {fs:Array Field} (hu:P.underlying t=some (.struct fs)) (hp:P.stoodInHeld t=false) {xs ys:List Value} (hf:rr P fs.toList 0 xs ys) (w:World) :
 (Op.equalIn 10000 t (.agg ⟨xs⟩) (.agg ⟨ys⟩)).run P w = .ok (fj xs ys) w:=by
 have he:P.fieldsOf t=fs:=by
  unfold Program.fieldsOf
  rw[hu]
 show(Op.equalIn (9999+1) t _ _).run P w=_
 rw[run_equalIn_struct w 9999 t _ _ (by rw[he];exact hu) hp,he]
 exact f_ (d:=9998) w fs.toList 0 xs ys rfl rfl hf
theorem ak.wR {t:TypeId} {fs:Array Field} (hu:P.underlying t=some (.struct fs)) (hp:P.stoodInHeld t=false) (hg:P.eqGuardType P.depth t=false) {xs ys:List Value} (hf:rr P fs.toList 0 xs ys) {x y:Operand} {K:Value→Prop} (h:K (.bool (fj xs ys))) :
 ak P w0 R av (do eqGuard .eql t x y (.agg ⟨xs⟩) (.agg ⟨ys⟩);binOp .eql t (.agg ⟨xs⟩) (.agg ⟨ys⟩)) bs cs F K:=by
 refine(bc _ _ _ _).2 ⟨_,fun w _=>?_,h⟩
 rw[an (run_eqGuard_agg w .eql t x y _ _ hg),run_eql_struct,na hu hp hf w]
 rfl
end
end Go.Sx
