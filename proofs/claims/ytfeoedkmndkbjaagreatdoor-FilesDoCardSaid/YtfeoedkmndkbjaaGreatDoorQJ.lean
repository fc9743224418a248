/- Parts of the proof: SyM. -/
import Derived.Test.YtfeoedkmndkbjaaGreatDoorQD
namespace Go.Sx
open Go
set_option linter.unusedVariables false
set_option linter.unusedSimpArgs false
variable {P:Program} {aK:fk} {w0:World} {R:Nat→Nat→Prop} {av:Nat→Prop} {bs:List (Nat×Nat)} {cs:List (List Value)} {F:Fx}
theorem aj.lN (hT:bn P aK) {t xt ty:TypeId} {ti te:TI} {e:TypeId} (ht:look aK t=some ti) (hk:ti.k = .slice e) (he:look aK e=some te) (hsz:te.size=1) {D:World→Prop} {r1 r2:List (Nat×Row)} {b k n c:Nat} {l m:List UInt8} {Z:List Value} {p:Addr}
 {K:KV} (hp:p=⟨b,k,none⟩) (hmn:m.length≤n) (hle:k+m.length≤l.length)
 (h:K (.int .i64 (m.length:Int)) bs cs ⟨D,r1 ++ [(b,Row.c ((lay l k m).map ao++Z))]++r2⟩) :
 aj P w0 R av (Builtin.copy_ #[t,xt] ty #[.slice (some p) n c,aC m]) bs cs ⟨D,r1 ++ [(b,Row.c (l.map ao++Z))]++r2⟩ K:=by
 subst hp
 refine bT.2 fun w hst=>?_
 obtain⟨i1,d1,z1,p1,p2,p3,p4,p5,p6,p7,p8⟩:=aA (hT _ _ ht)
 obtain⟨i2,d2,z2,q1,q2,q3,q4,q5,q6,q7,q8⟩:=aA (hT _ _ he)
 rw[p4] at hk
 obtain rfl:=cO hk
 obtain⟨w',g1,g2⟩:=St.pV (P:=P) (w':=w) (k:=k) hst (l:=m.map ao) (fun v hv=>gm v hv) (by simp;omega)
 rw[jW hle] at g2
 refine⟨_,w',[],cs,_,?_,by rw[List.append_nil];exact g2,by rw[List.append_nil];exact h⟩
 unfold Builtin.copy_
 simp only[show(#[t,xt]:Array TypeId)[0]? = some t from rfl,show ∀ u v:Value,(#[u,v]:Array Value)[0]? = some u from fun _ _=>rfl,show ∀ u v:Value,(#[u,v]:Array Value)[1]? = some v from fun _ _=>rfl]
 rw[ag (az p2 w)]
 simp only
 rw[ag (m:=Builtin.lenOf (aC m)) (a:=m.length) (w':=w) rfl,ag (run_sizeOf q1 w),← q5]
 rw[show Nat.min m.length n=m.length from Nat.min_eq_left hmn]
 have hf:(Builtin.firstCells te.size m.length (aC m)).run P w = .ok ⟨m.map ao⟩ w:=by
  show Result.ok _ w=_
  congr 1
  rw[j3]
  simp
  intro x hx
  rfl
 rw[ag hf]
 simp only
 rw[ag g1]
 rfl
end Go.Sx
