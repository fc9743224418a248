/- Parts of the proof: AbR. -/
import Derived.Test.YtakammghcodmgaaGreatDoorQJ
import Derived.Test.YtakammghcodmgaaGreatDoorQI
import Derived.Test.YtakammghcodmgaaGreatDoorQC
import Derived.Test.YtakammghcodmgaaGreatDoorQK
namespace Go.Proofs.YtakammghcodmgaaGreatDoor
open Go Go.Sx
set_option maxRecDepth 100000
set_option maxHeartbeats 4000000
set_option linter.unusedVariables false
set_option linter.unusedSimpArgs false

def staC (s : Sta) : List Value := (List.range 32).flatMap (fun i => tskC (s.T i)) ++ ((List.range 11).map (fun i => Value.bool (s.D i)) ++ (s.q.v :: s.pr.v :: .int .i64 s.nx :: s.cp.v :: s.gr.v :: s.ti.v :: s.qu.v :: s.pg.v :: ((List.range 32).map (fun i => (s.sp i).v) ++
 (s.wi.v :: s.bk.v :: (dchC s.dc ++ (trfC s.tr ++ (lnkC s.lk ++ (serC s.se ++ [.int .i64 s.now, s.al.v, .bool (s.M 0), .bool (s.M 1), .bool (s.M 2), .bool (s.M 3), .bool (s.M 4), s.pe.v, s.rc.v, s.ac.v, s.nw.v]))))))))

def serR (x : Ser) : List Value := bsV x.inp :: .int .i64 x.at' :: .int .i64 x.pause :: bsV x.got :: bsV x.out :: (dchC x.co ++ dchC x.ci)

def upd {α : Type} (f : Nat → α) (i : Nat) (x : α) : Nat → α := fun j => if j = i then x else f j

theorem staC_T (s : Sta) : ∀ i, i < 32 → ((staC s).drop (i * 8)).take 8 = tskC (s.T i)
 | 0, _ => by kernel_rfl
 | 1, _ => by kernel_rfl
 | 2, _ => by kernel_rfl
 | 3, _ => by kernel_rfl
 | 4, _ => by kernel_rfl
 | 5, _ => by kernel_rfl
 | 6, _ => by kernel_rfl
 | 7, _ => by kernel_rfl
 | 8, _ => by kernel_rfl
 | 9, _ => by kernel_rfl
 | 10, _ => by kernel_rfl
 | 11, _ => by kernel_rfl
 | 12, _ => by kernel_rfl
 | 13, _ => by kernel_rfl
 | 14, _ => by kernel_rfl
 | 15, _ => by kernel_rfl
 | 16, _ => by kernel_rfl
 | 17, _ => by kernel_rfl
 | 18, _ => by kernel_rfl
 | 19, _ => by kernel_rfl
 | 20, _ => by kernel_rfl
 | 21, _ => by kernel_rfl
 | 22, _ => by kernel_rfl
 | 23, _ => by kernel_rfl
 | 24, _ => by kernel_rfl
 | 25, _ => by kernel_rfl
 | 26, _ => by kernel_rfl
 | 27, _ => by kernel_rfl
 | 28, _ => by kernel_rfl
 | 29, _ => by kernel_rfl
 | 30, _ => by kernel_rfl
 | 31, _ => by kernel_rfl
 | i + 32, h => absurd h (by omega)
theorem staC_D (s : Sta) : ∀ i, i < 11 → (staC s)[256 + i]? = some (.bool (s.D i))
 | 0, _ => by kernel_rfl
 | 1, _ => by kernel_rfl
 | 2, _ => by kernel_rfl
 | 3, _ => by kernel_rfl
 | 4, _ => by kernel_rfl
 | 5, _ => by kernel_rfl
 | 6, _ => by kernel_rfl
 | 7, _ => by kernel_rfl
 | 8, _ => by kernel_rfl
 | 9, _ => by kernel_rfl
 | 10, _ => by kernel_rfl
 | i + 11, h => absurd h (by omega)
theorem put_T (s : Sta) (x : Tsk) : ∀ i, i < 32 → laid (staC s) (i * 8) (tskC x) = staC { s with T := upd s.T i x }
 | 0, _ => by kernel_rfl
 | 1, _ => by kernel_rfl
 | 2, _ => by kernel_rfl
 | 3, _ => by kernel_rfl
 | 4, _ => by kernel_rfl
 | 5, _ => by kernel_rfl
 | 6, _ => by kernel_rfl
 | 7, _ => by kernel_rfl
 | 8, _ => by kernel_rfl
 | 9, _ => by kernel_rfl
 | 10, _ => by kernel_rfl
 | 11, _ => by kernel_rfl
 | 12, _ => by kernel_rfl
 | 13, _ => by kernel_rfl
 | 14, _ => by kernel_rfl
 | 15, _ => by kernel_rfl
 | 16, _ => by kernel_rfl
 | 17, _ => by kernel_rfl
 | 18, _ => by kernel_rfl
 | 19, _ => by kernel_rfl
 | 20, _ => by kernel_rfl
 | 21, _ => by kernel_rfl
 | 22, _ => by kernel_rfl
 | 23, _ => by kernel_rfl
 | 24, _ => by kernel_rfl
 | 25, _ => by kernel_rfl
 | 26, _ => by kernel_rfl
 | 27, _ => by kernel_rfl
 | 28, _ => by kernel_rfl
 | 29, _ => by kernel_rfl
 | 30, _ => by kernel_rfl
 | 31, _ => by kernel_rfl
 | i + 32, h => absurd h (by omega)

theorem staC_len (s : Sta) : (staC s).length = 376 := by kernel_rfl

theorem staC_one (s : Sta) : ∀ v ∈ staC s, oneCell v = true := by
 have h : (staC s).all oneCell = true := by kernel_rfl
 exact fun v hv => List.all_eq_true.1 h v hv

end Go.Proofs.YtakammghcodmgaaGreatDoor
