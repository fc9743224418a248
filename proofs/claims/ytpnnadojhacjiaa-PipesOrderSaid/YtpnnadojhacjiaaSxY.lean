/- Symbolic execution, part Y: facts changed ahead of a head. -/
import Derived.Test.YtpnnadojhacjiaaSxX
namespace Go.Sx
open Go
variable {P : Program} {tab : Tab} {w0 : World} {R : Nat → Nat → Prop} {av : Nat → Prop} {bs : List (Nat × Nat)} {cs : List (List Value)} {F F' : Fx}

theorem XCall.ent {f : FuncId} {vs : List Value} {K : KV} (h : Ent F F') (k : XCall P w0 R av f vs bs cs F' K) : XCall P w0 R av f vs bs cs F K :=
  XCall_iff.2 ⟨(XCall_iff.1 k).1, fun w hst => (XCall_iff.1 k).2 w (h _ _ _ _ _ _ hst)⟩

theorem XVal.ent {m : Sem Value} {K : KV} (h : Ent F F') (k : XVal P w0 R av m bs cs F' K) : XVal P w0 R av m bs cs F K :=
  XVal_iff.2 fun w hst => XVal_iff.1 k w (h _ _ _ _ _ _ hst)

theorem XStop.ent {c : Code} {tm : List SV} {K : Exit → KT} (h : Ent F F') (k : XStop P w0 R av c tm bs cs F' K) : XStop P w0 R av c tm bs cs F K :=
  XStop_iff.2 fun a w hf hst => XStop_iff.1 k a w hf (h _ _ _ _ _ _ hst)

end Go.Sx
