/- Parts of the proof: SyT. -/
import Derived.Test.YtlnhdpjnlffaoaaGreatDoorQI
namespace Go.Sx
open Go
set_option linter.unusedVariables false
theorem bP {z C:List Value} (h:C.length=z.length):laid z 0 C=C:=by
 unfold laid
 rw[List.take_zero,List.nil_append,Nat.zero_add,List.drop_of_length_le (by omega),List.append_nil]
theorem vA {place:Nat→(Nat→Nat→Prop)→Prop} {z C:List Value} {n:Nat} {K:List Value→Prop} (hp : ∀ S:Nat→Nat→Prop,S 0 n→place 0 S) (hC:C.length=n) (hz:z.length=n) (h:K C):fB place [(0,.agg ⟨C⟩)] z K:=by
 show lR (.agg ⟨C⟩) fun l=>place 0 fun off size=>xC l size (fD z off l fun z'=>K z')
 exact hp _ (sF hC (kK (by omega) (by rw[bP (by omega)];exact h)))
def wF:Value→Bool
 | .agg _ | .bool _ | .int _ _ | .string _ | .pointer _ | .slice _ _ _ | .map _ | .func _ _ _ | .nilFunc | .iface _ _ | .nilIface=>true
 | _=>false
theorem xu {v:Value} {K:List Value→Prop} (h:wF v=true) (k:K v.cells.toList):lR v K:=by
 cases v<;>first | exact k | (cases h;done)
def wI (ti:TI):List (Nat×Value)→List Value→List Value
 | [],z=>z
 | (i,v)::r,z=>match ti.offs[i]? with
  | some (off,_,_)=>wI ti r (laid z off v.cells.toList)
  | none=>[]
def sd (ti:TI) (n:Nat):List (Nat×Value)→Bool
 | []=>true
 | (i,v)::r=>match ti.offs[i]? with
  | some (off,sz,_)=>wF v&&(Nat.beq v.cells.toList.length sz&&(Nat.ble (off+sz) n&&sd ti n r))
  | none=>false
theorem tn {ti:TI} {n:Nat} : ∀ {ps:List (Nat×Value)} {z:List Value} {K:List Value→Prop},z.length=n→sd ti n ps=true→K (wI ti ps z)→fB (dq ti) ps z K
 | [],z,K,_,_,h=>h
 | (i,v)::r,z,K,hz,ho,h=>by
  unfold sd at ho
  unfold wI at h
  cases hi:ti.offs[i]? with
  | none=>rw[hi] at ho;cases ho
  | some x=>
   obtain⟨off,sz,g⟩:=x
   rw[hi] at ho h
   simp only[Bool.and_eq_true] at ho
   obtain⟨h1,h2,h3,h4⟩:=ho
   have h2:=Nat.eq_of_beq_eq_true h2
   have h3:=Nat.le_of_ble_eq_true h3
   unfold fB
   refine xu h1 ?_
   unfold dq
   refine nB hi ?_
   exact sF h2 (kK (by omega) (tn (by rw[kB (by omega)];exact hz) h4 h))
theorem kE {ti:TI} {n:Nat} {ps:List (Nat×Value)} {z X:List Value} {K:List Value→Prop} (hz:z.length=n) (ho:sd ti n ps=true) (hX:wI ti ps z=X) (h:K X):fB (dq ti) ps z K:=
 tn hz ho (hX ▸ h)
theorem aP.aX {P:Program} {aY:er} {w0:World} {R:Nat→Nat→Prop} {av:Nat→Prop} {bs:List (Nat×Nat)} {cs:List (List Value)} (hT:bB P aY) {t:TypeId} {ti:TI} (ht:look aY t=some ti) {D:World→Prop} {r1 r2:List (Nat×Row)} {b k:Nat} {C X:List Value} {v:Value} {p:Addr} {K:KU} (hp:p=⟨b,k,none⟩)
 (hl:v.cells.toList.length=ti.size) (hone : ∀ u∈v.cells.toList,a7 u=true) (hle:k+ti.size≤C.length) (hX:laid C k v.cells.toList=X) (h:K bs cs ⟨D,r1 ++ [(b,Row.c X)]++r2⟩) :
 aP P w0 R av (Instr.storeAt t (.pointer (some p)) v) bs cs ⟨D,r1 ++ [(b,Row.c C)]++r2⟩ K:=
 aP.cO hT ht hp hl hone hle (hX ▸ h)
theorem yB {n:Nat}:Builtin.nextslicecap (n+1) n≤n+n/4+600:=by
 unfold Builtin.nextslicecap
 split
 · omega
 · split
   · omega
   · unfold Builtin.growBy
     rw[if_neg (by omega)]
     unfold Builtin.growBy
     rw[if_pos (by omega)]
     omega
theorem ar.fk {P:Program} {aY:er} {w0:World} {R:Nat→Nat→Prop} {av:Nat→Prop} {bs:List (Nat×Nat)} {cs:List (List Value)} (hT:bB P aY) {t xt ty:TypeId} {ti tx te:TI} {e xe:TypeId} (ht:look aY t=some ti) (hk:ti.k = .slice e) (hx:look aY xt=some tx) (hxk:tx.k = .slice xe) (he:look aY e=some te)
 (hzl:te.zero.length=te.size) {D:World→Prop} {r1 r2:List (Nat×Row)} {a p:Option Addr} {n cap cx:Nat} {C L M:List Value} {K:KV} (own:cZ te.size n a cap C L)
 (hM:aK w0 R av bs cs ⟨D,r1++bo a C++r2⟩ p M) (hm:M.length=1*te.size) (hone : ∀ v∈M,a7 v=true) (hlen:n+1≤4611686018427387904) (hroom:(n+n/4+600)*te.bytes≤2 ^ 48)
 (h : ∀ a' cap' C',cZ te.size (n+1) a' cap' C' (L++M)→K (.slice a' (n+1) cap') bs cs ⟨D,r1++bo a' C'++r2⟩) :
 ar P w0 R av (Builtin.append_ #[t,xt] ty #[.slice a n cap,.slice p 1 cx]) bs cs ⟨D,r1++bo a C++r2⟩ K:=
 ar.xd hT ht hk hx hxk he hzl own hM hm hone hlen (fun hc=>by
  have:=own.fit
  have e:cap=n:=by omega
  subst e
  exact Nat.le_trans (Nat.mul_le_mul_right te.bytes yB) hroom) h
theorem az.kN {P:Program} {aY:er} {w0:World} {R:Nat→Nat→Prop} {av:Nat→Prop} (hT:bB P aY) {ι:Type} {body:Code} {tm:List SV} {bs:List (Nat×Nat)} {cs:List (List Value)} {D:Fx} {K:Exit→KT} (A:List Nat) (I:ι→Prop)
 (vals:ι→List (Nat×SV)) (DI:ι→Fx) (μ:ι→Nat) (i0:ι) (h0:I i0)
 (start:ff A tm 0 fun tm0=>gZ (vals i0) tm0 fun tm1=>au tm tm1) (hD:ax D (DI i0))
 (round : ∀ i,I i→ff A tm 0 fun tm0=>gZ (vals i) tm0 fun tm1=>xc P aY w0 R av body tm1 bs cs (DI i) (BQ I vals (fun _=>cs) DI μ i tm0 bs K)) :
 az P w0 R av (.loop body) tm bs cs D K:=az.loop hT A I vals (fun _=>cs) DI μ i0 h0 start rfl hD round
end Go.Sx
