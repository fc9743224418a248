/- Parts of the proof: SyL. -/
import Derived.Test.YtfeoedkmndkbjaaGreatDoorQD
namespace Go.Sx
open Go
set_option linter.unusedVariables false
set_option linter.unusedSimpArgs false
variable {P:Program} {aK:fk} {w0:World} {R:Nat→Nat→Prop} {av:Nat→Prop} {bs:List (Nat×Nat)} {cs:List (List Value)} {F:Fx}
theorem jg {w:World} {t xt ty e:TypeId} {i2:TypeInfo} {z:Value} (ht:P.underlying t=some (.slice e)) (hx:P.underlying xt=some (.int .i64)) (he:P.info? e=some i2) (hz:i2.zero=some z) {a:Option Addr} {n cap m:Nat}
 (hsm:m≤1000000∧0<m*i2.size∧m*i2.bytes≤1000000000)
 (hfit:n+m≤cap) {M:List Value} (hM:M=(Builtin.zeroCells z.cells m).toList) {w':World} (hs : ∀ ad,a=some ad→(storeCells (ad.add (n*i2.size)) M).run P w = .ok () w') (hn:a=none→w'=w) :
 (Builtin.append_ #[t,xt] ty #[.slice a n cap,.int .i64 (m:Int)]).run P w = .ok (.slice a (n+m) cap) w':=by
 obtain⟨h1,h2,h3⟩:=hsm
 unfold Builtin.append_
 simp only[show(#[t,xt]:Array TypeId)[0]? = some t from rfl,show(#[t,xt]:Array TypeId)[1]? = some xt from rfl,show ∀ u v:Value,(#[u,v]:Array Value)[0]? = some u from fun _ _=>rfl,
  show ∀ u v:Value,(#[u,v]:Array Value)[1]? = some v from fun _ _=>rfl]
 rw[ag (az ht w)]
 simp only
 rw[ag (run_sizeOf he w),ag (az hx w),ag (run_pure P _ w)]
 simp only[Bool.false_eq_true,if_false,Bool.not_true,if_true]
 rw[ag (m:=asInt (.int .i64 (m:Int))) (a:=(m:Int)) (w':=w) rfl]
 rw[wrap_i64 (by omega),if_neg (by omega),ag (run_typeInfo he w),if_neg (by
  have:(m:Int)*(i2.bytes:Int)=((m*i2.bytes:Nat):Int):=by omega
  rw[this]
  omega),ag (run_pure P _ w),Int.toNat_natCast]
 rw[if_pos hfit,if_neg (by omega)]
 rw[ag (m:=(do let v ← zeroValue e;pure (Builtin.zeroCells v.cells m):Sem (Array Value))) (a:=Builtin.zeroCells z.cells m) (w':=w) (by rw[ag (dW he hz w)];rfl)]
 cases a with
 | none=>rw[hn rfl];rfl
 | some ad=>
  simp only
  rw[← hM,ag (hs ad rfl)]
  rfl
theorem nC {w:World} {t xt ty e:TypeId} {i2:TypeInfo} {z:Value} (ht:P.underlying t=some (.slice e)) (hx:P.underlying xt=some (.int .i64)) (he:P.info? e=some i2) (hz:i2.zero=some z)
 {a:Option Addr} {n cap m:Nat} (hsm:m≤1000000∧0<m*i2.size∧m*i2.bytes≤1000000000) (hfit : ¬ n+m≤cap) {L M:List Value} (hL:aB w a L) (hl:L.length=n*i2.size) (hM:M=(Builtin.zeroCells z.cells m).toList) (hlen:n+m≤4611686018427387904)
 (hroom:(2*(n+m)+1000)*i2.bytes≤2 ^ 48) :
 ∃ newCap,n+m≤newCap∧(Builtin.append_ #[t,xt] ty #[.slice a n cap,.int .i64 (m:Int)]).run P w =
  .ok (.slice (some ⟨w.heap.size,0,none⟩) (n+m) newCap)
   { w with heap:=w.heap.push (.cells (L++M++(Builtin.zeroCells z.cells (newCap - (n+m))).toList).toArray e),drawn:=w.drawn+1 }:=by
 obtain⟨h1,h2,h3⟩:=hsm
 refine⟨Question.cut (.appendCap (n+m) cap e) (w.tape w.drawn (.appendCap (n+m) cap e)),by simp[Question.cut],?_⟩
 have hcap : ¬ Builtin.nextslicecap (n+m) cap*i2.bytes>2 ^ 48:=by
  have h4:=nextslicecap_le (show cap<n+m by omega)
  have:=Nat.mul_le_mul_right i2.bytes h4
  omega
 have hmax : ¬ ((n+m:Nat):Int)>IntKind.i64.max:=by
  have:IntKind.i64.max=9223372036854775807:=by decide
  rw[this]
  omega
 unfold Builtin.append_
 simp only[show(#[t,xt]:Array TypeId)[0]? = some t from rfl,show(#[t,xt]:Array TypeId)[1]? = some xt from rfl,show ∀ u v:Value,(#[u,v]:Array Value)[0]? = some u from fun _ _=>rfl,
  show ∀ u v:Value,(#[u,v]:Array Value)[1]? = some v from fun _ _=>rfl]
 rw[ag (az ht w)]
 simp only
 rw[ag (run_sizeOf he w),ag (az hx w),ag (run_pure P _ w)]
 simp only[Bool.false_eq_true,if_false,Bool.not_true,if_true]
 rw[ag (m:=asInt (.int .i64 (m:Int))) (a:=(m:Int)) (w':=w) rfl]
 rw[wrap_i64 (by omega),if_neg (by omega),ag (run_typeInfo he w),if_neg (by
  have:(m:Int)*(i2.bytes:Int)=((m*i2.bytes:Nat):Int):=by omega
  rw[this]
  omega),ag (run_pure P _ w),Int.toNat_natCast]
 rw[if_neg hfit]
 rw[ag (run_typeInfo he w),if_neg (fun h=>hmax h.1)]
 rw[ag (run_typeInfo he w),if_neg hcap]
 rw[ag (m:=choose _) (w':={ w with drawn:=w.drawn+1 }) rfl]
 rw[ag (run_typeInfo he _),ag (run_askRoom _ _)]
 rw[ag (dV (L:=L) (by exact hL) hl),if_neg (by omega)]
 rw[ag (m:=(do let v ← zeroValue e;pure (Builtin.zeroCells v.cells m):Sem (Array Value))) (a:=Builtin.zeroCells z.cells m) (w':={ w with drawn:=w.drawn+1 }) (by rw[ag (dW he hz _)];rfl)]
 rw[ag (dW he hz _)]
 have hc:(⟨L⟩:Array Value)++(Builtin.zeroCells z.cells m)++Builtin.zeroCells z.cells (Question.cut (.appendCap (n+m) cap e) (w.tape w.drawn (.appendCap (n+m) cap e)) - (n+m)) =
  ⟨L++M++(Builtin.zeroCells z.cells (Question.cut (.appendCap (n+m) cap e) (w.tape w.drawn (.appendCap (n+m) cap e)) - (n+m))).toList⟩:=by
  apply Array.toList_inj.1
  rw[hM]
  simp
 rw[hc,ag (ic _ e _)]
 rfl
theorem aj.rI (hT:bn P aK) {t xt ty:TypeId} {ti tx te:TI} {e:TypeId} (ht:look aK t=some ti) (hk:ti.k = .slice e) (hx:look aK xt=some tx) (hxk:tx.k = .int .i64) (he:look aK e=some te)
 (hzl:te.zero.length=te.size) {D:World→Prop} {r1 r2:List (Nat×Row)} {a:Option Addr} {n cap m:Nat} {C L:List Value} {K:KV} (own:Own te.size n a cap C L)
 (hone : ∀ v∈(Builtin.zeroCells ⟨te.zero⟩ m).toList,aO v=true) (hsm:m≤1000000∧0<m*te.size∧m*te.bytes≤1000000000) (hlen:n+m≤4611686018427387904) (hroom:(2*(n+m)+1000)*te.bytes≤2 ^ 48)
 (h : ∀ a' cap' C',Own te.size (n+m) a' cap' C' (L++(Builtin.zeroCells ⟨te.zero⟩ m).toList)→K (.slice a' (n+m) cap') bs cs ⟨D,r1++aR a' C'++r2⟩) :
 aj P w0 R av (Builtin.append_ #[t,xt] ty #[.slice a n cap,.int .i64 (m:Int)]) bs cs ⟨D,r1++aR a C++r2⟩ K:=by
 refine bT.2 fun w hst=>?_
 obtain⟨i1,d1,z1,p1,p2,p3,p4,p5,p6,p7,p8⟩:=aA (hT _ _ ht)
 obtain⟨i3,d3,z3,o1,o2,o3,o4,o5,o6,o7,o8⟩:=aA (hT _ _ hx)
 obtain⟨M,hMd⟩ : ∃ M,M=(Builtin.zeroCells ⟨te.zero⟩ m).toList:=⟨_,rfl⟩
 rw[← hMd] at h hone
 have hm:M.length=m*te.size:=by rw[hMd,ga,hzl]
 obtain⟨i2,d2,z2,q1,q2,q3,q4,q5,q6,q7,q8⟩:=aA (hT _ _ he)
 rw[p4] at hk
 rw[o4] at hxk
 obtain rfl:=cO hk
 obtain rfl:=yM hxk
 have hzc0:z2.cells=⟨te.zero⟩:=by rw[q6]
 have hMd':M=(Builtin.zeroCells z2.cells m).toList:=by rw[hMd,hzc0]
 rw[q5,q7] at hsm
 have hLw:=own.at hst
 by_cases hfit:n+m≤cap
 · rcases own.alt with⟨rfl,rfl,hc0⟩ | ⟨b,rfl,hCl,hCt⟩
   · have hn0:n=0:=by omega
     have hm0:m=0:=by omega
     subst hn0 hm0
     have hM0:M = []:=List.eq_nil_of_length_eq_zero (by simpa using hm)
     have hL0:L = []:=List.eq_nil_of_length_eq_zero (by simpa using own.len)
     subst hM0 hL0 hc0
     refine⟨_,w,[],cs,_,jg p2 o2 q1 q3 hsm (by omega) hMd' (w':=w) (fun ad h=>by cases h) (fun _=>rfl),by rw[List.append_nil];exact hst,by
      rw[List.append_nil];exact h none 0 [] (Own.nil _)⟩
   · have hrow:=(hst.rows (b,C) (by simp[aR])).1
     obtain⟨et,hrow⟩:=hrow
     have hsz:0+n*te.size+0+M.length≤C.toArray.size:=by
      simp only[List.size_toArray]
      rw[hCl,hm,Nat.zero_add,Nat.add_zero,← Nat.add_mul]
      exact Nat.mul_le_mul_right _ hfit
     obtain⟨w',g1,g2,g3,g4,g5,g6,arr',g7,g8,g9⟩:=eI (P:=P) (b:=b) (o:=0+n*te.size) M 0 w C.toArray et hrow hone hsz
     have hO:Own te.size (n+m) (some ⟨b,0,none⟩) cap (C.take (n*te.size)++M++C.drop ((n+m)*te.size)) (L++M):=by
      have hle:n*te.size+m*te.size≤C.length:=by rw[hCl,← Nat.add_mul];exact Nat.mul_le_mul_right _ hfit
      have hadd:(n+m)*te.size=n*te.size+m*te.size:=Nat.add_mul ..
      refine⟨by rw[List.length_append,own.len,hm,Nat.add_mul],hfit,.inr ⟨b,rfl,?_,?_⟩⟩
      · simp only[List.length_append,List.length_take,List.length_drop]
        omega
      · rw[hCt,hadd,List.take_append_of_le_length (by rw[List.length_append,own.len,hm];exact Nat.le_refl _)]
        rw[List.take_of_length_le (by rw[List.length_append,own.len,hm];exact Nat.le_refl _)]
     refine⟨_,w',[],cs,_,jg p2 o2 q1 q3 hsm hfit hMd' (w':=w') (fun ad had=>?_) (fun h=>by cases h),?_,by
      rw[List.append_nil];exact h _ _ _ hO⟩
     · cases had
       rw[Addr.aV,← q5]
       exact g1
     · rw[List.append_nil]
       refine hst.putRow (C:=Row.c C) (C':=Row.c _) g2 g3 g4 g5 g6 ⟨et,?_⟩ fun l hl=>⟨⟨_,rfl⟩,et,_,_,hrow,g7,g8⟩
       rw[g7]
       congr 2
       apply Array.ext_getElem?
       intro j
       rw[g9 j]
       have hle:n*te.size+m*te.size≤C.length:=by rw[hCl,← Nat.add_mul];exact Nat.mul_le_mul_right _ hfit
       have hadd:(n+m)*te.size=n*te.size+m*te.size:=Nat.add_mul ..
       simp only[Nat.zero_add,Nat.add_zero,List.getElem?_toArray]
       by_cases hin:n*te.size≤j∧j<n*te.size+M.length
       · rw[if_pos hin,List.append_assoc,List.getElem?_append_right (by simp only[List.length_take];omega),List.getElem?_append_left (by simp only[List.length_take];omega)]
         congr 1
         simp only[List.length_take]
         omega
       · rw[if_neg hin]
         by_cases hlt:j<n*te.size
         · rw[List.append_assoc,List.getElem?_append_left (by simp only[List.length_take];omega),List.getElem?_take,if_pos hlt]
         · rw[List.getElem?_append_right (by simp only[List.length_take,List.length_append];omega),List.getElem?_drop]
           congr 1
           simp only[List.length_take,List.length_append]
           omega
 · obtain⟨newCap,hc,hrun⟩:=nC (w:=w) (ty:=ty) p2 o2 q1 q3 hsm hfit hLw (by rw[← q5];exact own.len) hMd' hlen (by rw[← q7];exact hroom)
   have hO:Own te.size (n+m) (some ⟨w.heap.size,0,none⟩) newCap (L++M++(Builtin.zeroCells z2.cells (newCap - (n+m))).toList) (L++M):=by
    refine⟨by rw[List.length_append,own.len,hm,Nat.add_mul],hc,.inr ⟨_,rfl,?_,?_⟩⟩
    · have hzc:z2.cells=⟨te.zero⟩:=by rw[q6]
      rw[List.length_append,List.length_append,own.len,hm,hzc,ga,hzl,← Nat.add_mul,← Nat.add_mul]
      congr 1
      omega
    · rw[List.take_append_of_le_length (by rw[List.length_append,own.len,hm,Nat.add_mul];exact Nat.le_refl _)]
      rw[List.take_of_length_le (by rw[List.length_append,own.len,hm,Nat.add_mul];exact Nat.le_refl _)]
   refine⟨_,_,[],cs,_,hrun,?_,by rw[List.append_nil];exact h _ _ _ hO⟩
   · rw[List.append_nil]
     have hle:Fx.Le ⟨D,r1++aR a C++r2⟩ ⟨D,r1++r2⟩:=⟨List.Sublist.append (List.sublist_append_left _ _) (List.Sublist.refl _),fun _ h=>h⟩
     have h1:=((hst.imp hle).newRow (L++M++(Builtin.zeroCells z2.cells (newCap - (n+m))).toList) e).drew
     refine h1.c_ (aq.perm ?_)
     have hp : ∀ x:Nat×Row,(r1++r2 ++ [x]).Perm (r1 ++ [x]++r2):=fun x=>by
      rw[List.append_assoc,List.append_assoc]
      exact List.Perm.append (List.Perm.refl _) List.perm_append_comm
     exact hp _
theorem j6 (m:Nat):(Builtin.zeroCells ⟨[Value.int .u8 0]⟩ m).toList=(List.replicate m (0:UInt8)).map ao:=by
 unfold Builtin.zeroCells
 have:=jR [Value.int .u8 0] (by simp) m
 have e1:m*(⟨[Value.int .u8 0]⟩:Array Value).size=m * [Value.int .u8 0].length:=rfl
 rw[e1,this]
 induction m with
 | zero=>rfl
 | succ m ih=>
  rw[List.replicate_succ,List.flatten_cons,List.replicate_succ,List.map_cons]
  have h2:=ih (jR [Value.int .u8 0] (by simp) m) rfl
  simp only at h2
  rw[h2]
  rfl
end Go.Sx
