/- Parts of the proof: SyK. -/
import Derived.Test.YtfeoedkmndkbjaaGreatDoorQD
import Derived.ChangeKeysEq
import Derived.Laws.StructEq
namespace Go.Sx
open Go
set_option linter.unusedVariables false
set_option linter.unusedSimpArgs false
variable {P:Program}
theorem ep {t:TypeId} {d:TypeDesc} (ht:P.underlying t=some d) (ha:(ez d).agg=false) {cs:Array Value} {o:Nat} {v:Value} (hv:cs[o]? = some v) (w:World):(part t cs o).run P w = .ok v w:=by
 unfold part
 rw[ag (eL ht w),ha]
 simp[hv]
theorem tK {t:TypeId} {d:TypeDesc} {i:TypeInfo} (ht:P.underlying t=some d) (ha:(ez d).agg=true) (hi:P.info? t=some i) {cs:Array Value} {o:Nat} (w:World) :
 (part t cs o).run P w = .ok (.agg (cs.extract o (o+i.size))) w:=by
 unfold part
 rw[ag (eL ht w),ha]
 simp only[if_true]
 rw[ag (run_sizeOf hi w)]
 rfl
theorem ku {e:TypeId} {k:IntKind} (he:P.underlying e=some (.int k)) (d c:Nat) (xs ys:Array Value) (f g:Nat→Int) (w:World) : ∀ (is:List Nat),
 (∀ i∈is,xs[i*c]? = some (.int k (f i))∧ys[i*c]? = some (.int k (g i)))→(Op.eqItems (d+1) e c xs ys is).run P w = .ok (is.all fun i=>f i == g i) w
 | [],_=>by simp[Op.eqItems]
 | i::is,h=>by
  obtain⟨h1,h2⟩:=h i (List.mem_cons_self ..)
  unfold Op.eqItems
  rw[ag (ep he rfl h1 w),ag (ep he rfl h2 w),ag (run_equalIn_int w d e k k _ _ he)]
  have ih:=ku he d c xs ys f g w is fun j hj=>h j (List.mem_cons_of_mem _ hj)
  rw[List.all_cons]
  cases hb:(f i == g i) with
  | true=>
   simp only[Bool.not_true,Bool.false_eq_true,if_false,Bool.true_and]
   exact ih
  | false=>simp
end Go.Sx
