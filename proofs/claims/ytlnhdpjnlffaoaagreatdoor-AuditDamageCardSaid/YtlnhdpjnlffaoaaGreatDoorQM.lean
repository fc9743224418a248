/- Parts of the proof: SyT. -/
import Derived.Test.YtlnhdpjnlffaoaaGreatDoorQI
namespace Go.Sx
open Go
set_option linter.unusedVariables false
theorem cw {z C:List Value} (h:C.length=z.length):laid z 0 C=C:=by
 unfold laid
 rw[List.take_zero,List.nil_append,Nat.zero_add,List.drop_of_length_le (by omega),List.append_nil]
theorem rQ {place:Nat→(Nat→Nat→Prop)→Prop} {z C:List Value} {n:Nat} {K:List Value→Prop} (hp : ∀ S:Nat→Nat→Prop,S 0 n→place 0 S) (hC:C.length=n) (hz:z.length=n) (h:K C):er place [(0,.agg ⟨C⟩)] z K:=by
 show ki (.agg ⟨C⟩) fun l=>place 0 fun off size=>tZ l size (eu z off l fun z'=>K z')
 exact hp _ (n6 hC (jd (by omega) (by rw[cw (by omega)];exact h)))
def tN:Value→Bool
 | .agg _ | .bool _ | .int _ _ | .string _ | .pointer _ | .slice _ _ _ | .map _ | .func _ _ _ | .nilFunc | .iface _ _ | .nilIface=>true
 | _=>false
theorem tU {v:Value} {K:List Value→Prop} (h:tN v=true) (k:K v.cells.toList):ki v K:=by
 cases v<;>first | exact k | (cases h;done)
def tq (ti:TI):List (Nat×Value)→List Value→List Value
 | [],z=>z
 | (i,v)::r,z=>match ti.offs[i]? with
  | some (off,_,_)=>tq ti r (laid z off v.cells.toList)
  | none=>[]
def oN (ti:TI) (n:Nat):List (Nat×Value)→Bool
 | []=>true
 | (i,v)::r=>match ti.offs[i]? with
  | some (off,sz,_)=>tN v&&(Nat.beq v.cells.toList.length sz&&(Nat.ble (off+sz) n&&oN ti n r))
  | none=>false
theorem qT {ti:TI} {n:Nat} : ∀ {ps:List (Nat×Value)} {z:List Value} {K:List Value→Prop},z.length=n→oN ti n ps=true→K (tq ti ps z)→er (cM ti) ps z K
 | [],z,K,_,_,h=>h
 | (i,v)::r,z,K,hz,ho,h=>by
  unfold oN at ho
  unfold tq at h
  cases hi:ti.offs[i]? with
  | none=>rw[hi] at ho;cases ho
  | some x=>
   obtain⟨off,sz,g⟩:=x
   rw[hi] at ho h
   simp only[Bool.and_eq_true] at ho
   obtain⟨h1,h2,h3,h4⟩:=ho
   have h2:=Nat.eq_of_beq_eq_true h2
   have h3:=Nat.le_of_ble_eq_true h3
   unfold er
   refine tU h1 ?_
   unfold cM
   refine tf hi ?_
   exact n6 h2 (jd (by omega) (qT (by rw[iO (by omega)];exact hz) h4 h))
theorem iX {ti:TI} {n:Nat} {ps:List (Nat×Value)} {z X:List Value} {K:List Value→Prop} (hz:z.length=n) (ho:oN ti n ps=true) (hX:tq ti ps z=X) (h:K X):er (cM ti) ps z K:=
 qT hz ho (hX ▸ h)
theorem aM.aY {P:Program} {aU:dA} {w0:World} {R:Nat→Nat→Prop} {av:Nat→Prop} {bs:List (Nat×Nat)} {cs:List (List Value)} (hT:bu P aU) {t:TypeId} {ti:TI} (ht:look aU t=some ti) {D:World→Prop} {r1 r2:List (Nat×Row)} {b k:Nat} {C X:List Value} {v:Value} {p:Addr} {K:KU} (hp:p=⟨b,k,none⟩)
 (hl:v.cells.toList.length=ti.size) (hone : ∀ u∈v.cells.toList,aV u=true) (hle:k+ti.size≤C.length) (hX:laid C k v.cells.toList=X) (h:K bs cs ⟨D,r1 ++ [(b,Row.c X)]++r2⟩) :
 aM P w0 R av (Instr.storeAt t (.pointer (some p)) v) bs cs ⟨D,r1 ++ [(b,Row.c C)]++r2⟩ K:=
 aM.cv hT ht hp hl hone hle (hX ▸ h)
theorem vG {n:Nat}:Builtin.nextslicecap (n+1) n≤n+n/4+600:=by
 unfold Builtin.nextslicecap
 split
 · omega
 · split
   · omega
   · unfold Builtin.growBy
     rw[if_neg (by omega)]
     unfold Builtin.growBy
     rw[if_pos (by omega)]
     omega
theorem ar.dZ {P:Program} {aU:dA} {w0:World} {R:Nat→Nat→Prop} {av:Nat→Prop} {bs:List (Nat×Nat)} {cs:List (List Value)} (hT:bu P aU) {t xt ty:TypeId} {ti tx te:TI} {e xe:TypeId} (ht:look aU t=some ti) (hk:ti.k = .slice e) (hx:look aU xt=some tx) (hxk:tx.k = .slice xe) (he:look aU e=some te)
 (hzl:te.zero.length=te.size) {D:World→Prop} {r1 r2:List (Nat×Row)} {a p:Option Addr} {n cap cx:Nat} {C L M:List Value} {K:KV} (own:cE te.size n a cap C L)
 (hM:aF w0 R av bs cs ⟨D,r1++bn a C++r2⟩ p M) (hm:M.length=1*te.size) (hone : ∀ v∈M,aV v=true) (hlen:n+1≤4611686018427387904) (hroom:(n+n/4+600)*te.bytes≤2 ^ 48)
 (h : ∀ a' cap' C',cE te.size (n+1) a' cap' C' (L++M)→K (.slice a' (n+1) cap') bs cs ⟨D,r1++bn a' C'++r2⟩) :
 ar P w0 R av (Builtin.append_ #[t,xt] ty #[.slice a n cap,.slice p 1 cx]) bs cs ⟨D,r1++bn a C++r2⟩ K:=
 ar.tp hT ht hk hx hxk he hzl own hM hm hone hlen (fun hc=>by
  have:=own.fit
  have e:cap=n:=by omega
  subst e
  exact Nat.le_trans (Nat.mul_le_mul_right te.bytes vG) hroom) h
theorem az.jg {P:Program} {aU:dA} {w0:World} {R:Nat→Nat→Prop} {av:Nat→Prop} (hT:bu P aU) {ι:Type} {body:Code} {tm:List SV} {bs:List (Nat×Nat)} {cs:List (List Value)} {D:Fx} {K:Exit→KT} (A:List Nat) (I:ι→Prop)
 (vals:ι→List (Nat×SV)) (DI:ι→Fx) (μ:ι→Nat) (i0:ι) (h0:I i0)
 (start:dS A tm 0 fun tm0=>fv (vals i0) tm0 fun tm1=>ax tm tm1) (hD:ao D (DI i0))
 (round : ∀ i,I i→dS A tm 0 fun tm0=>fv (vals i) tm0 fun tm1=>xc P aU w0 R av body tm1 bs cs (DI i) (ya I vals (fun _=>cs) DI μ i tm0 bs K)) :
 az P w0 R av (.loop body) tm bs cs D K:=az.loop hT A I vals (fun _=>cs) DI μ i0 h0 start rfl hD round
end Go.Sx
