/- The closed facts of the row of auditDamage, each by itself. -/
import Derived.Test.YtlnhdpjnlffaoaaGreatDoorRows
import Derived.ProofKit
import Derived.KernelRfl
namespace Go.Proofs.YtlnhdpjnlffaoaaGreatDoor
open Go
set_option maxRecDepth 100000
set_option linter.unusedVariables false
theorem lg:(fun(P:Program) (f:FuncId) (fn:Func) (s:ChangeSpec) (c:OpenClaim)=>(c.wf (OpenSpec.ofChange s):Bool)) Tryz.pinned.checked.prog 4 Tryz.f4 Rows.auditDamageSpec Rows.auditDamageRow=true:=by kernel_rfl
theorem kQ:(fun(P:Program) (f:FuncId) (fn:Func) (s:ChangeSpec) (c:OpenClaim)=>(laidOutB P:Bool)) Tryz.pinned.checked.prog 4 Tryz.f4 Rows.auditDamageSpec Rows.auditDamageRow=true:=by kernel_rfl
theorem kW:(fun(P:Program) (f:FuncId) (fn:Func) (s:ChangeSpec) (c:OpenClaim)=>(mapsRowed P:Bool)) Tryz.pinned.checked.prog 4 Tryz.f4 Rows.auditDamageSpec Rows.auditDamageRow=true:=by kernel_rfl
theorem lr:(fun(P:Program) (f:FuncId) (fn:Func) (s:ChangeSpec) (c:OpenClaim)=>(fn.params.all (P.readableRec ·):Bool)) Tryz.pinned.checked.prog 4 Tryz.f4 Rows.auditDamageSpec Rows.auditDamageRow=true:=by kernel_rfl
theorem kY:(fun(P:Program) (f:FuncId) (fn:Func) (s:ChangeSpec) (c:OpenClaim)=>(namedTie P c.named s.vars:Bool)) Tryz.pinned.checked.prog 4 Tryz.f4 Rows.auditDamageSpec Rows.auditDamageRow=true:=by kernel_rfl
theorem k9:(fun(P:Program) (f:FuncId) (fn:Func) (s:ChangeSpec) (c:OpenClaim)=>((c.stops == []):Bool)) Tryz.pinned.checked.prog 4 Tryz.f4 Rows.auditDamageSpec Rows.auditDamageRow=true:=by kernel_rfl
theorem kU:(fun(P:Program) (f:FuncId) (fn:Func) (s:ChangeSpec) (c:OpenClaim)=>((P.stops == []):Bool)) Tryz.pinned.checked.prog 4 Tryz.f4 Rows.auditDamageSpec Rows.auditDamageRow=true:=by kernel_rfl
theorem ld:(fun(P:Program) (f:FuncId) (fn:Func) (s:ChangeSpec) (c:OpenClaim)=>((c.knobs == []):Bool)) Tryz.pinned.checked.prog 4 Tryz.f4 Rows.auditDamageSpec Rows.auditDamageRow=true:=by kernel_rfl
theorem lu:(fun(P:Program) (f:FuncId) (fn:Func) (s:ChangeSpec) (c:OpenClaim)=>((P.stopKnobs == []):Bool)) Tryz.pinned.checked.prog 4 Tryz.f4 Rows.auditDamageSpec Rows.auditDamageRow=true:=by kernel_rfl
theorem k5:(fun(P:Program) (f:FuncId) (fn:Func) (s:ChangeSpec) (c:OpenClaim)=>((c.inPlace == P.inPlace f):Bool)) Tryz.pinned.checked.prog 4 Tryz.f4 Rows.auditDamageSpec Rows.auditDamageRow=true:=by kernel_rfl
theorem jG:(fun(P:Program) (f:FuncId) (fn:Func) (s:ChangeSpec) (c:OpenClaim)=>((c.unfollowed == P.unfollowed f):Bool)) Tryz.pinned.checked.prog 4 Tryz.f4 Rows.auditDamageSpec Rows.auditDamageRow=true:=by kernel_rfl
theorem j_:(fun(P:Program) (f:FuncId) (fn:Func) (s:ChangeSpec) (c:OpenClaim)=>((c.recurses == P.recurses f):Bool)) Tryz.pinned.checked.prog 4 Tryz.f4 Rows.auditDamageSpec Rows.auditDamageRow=true:=by kernel_rfl
theorem j6:(fun(P:Program) (f:FuncId) (fn:Func) (s:ChangeSpec) (c:OpenClaim)=>((c.named == P.varsNamed f):Bool)) Tryz.pinned.checked.prog 4 Tryz.f4 Rows.auditDamageSpec Rows.auditDamageRow=true:=by kernel_rfl
theorem jF:(fun(P:Program) (f:FuncId) (fn:Func) (s:ChangeSpec) (c:OpenClaim)=>((c.maps == (fn.params.toList++s.plain.varTypes P).any (P.mapsRec ·)):Bool)) Tryz.pinned.checked.prog 4 Tryz.f4 Rows.auditDamageSpec Rows.auditDamageRow=true:=by kernel_rfl
theorem kj:(fun(P:Program) (f:FuncId) (fn:Func) (s:ChangeSpec) (c:OpenClaim)=>((c.ifaces == (fn.params.toList++s.plain.varTypes P).any (P.ifacesRec ·)):Bool)) Tryz.pinned.checked.prog 4 Tryz.f4 Rows.auditDamageSpec Rows.auditDamageRow=true:=by kernel_rfl
theorem jD:(fun(P:Program) (f:FuncId) (fn:Func) (s:ChangeSpec) (c:OpenClaim)=>((c.mapsOut == P.mapsAmong fn.resultTypes.toList):Bool)) Tryz.pinned.checked.prog 4 Tryz.f4 Rows.auditDamageSpec Rows.auditDamageRow=true:=by kernel_rfl
theorem j4:(fun(P:Program) (f:FuncId) (fn:Func) (s:ChangeSpec) (c:OpenClaim)=>((c.loops == (fn.params.toList++s.plain.varTypes P).any (P.loopsFrom ·)):Bool)) Tryz.pinned.checked.prog 4 Tryz.f4 Rows.auditDamageSpec Rows.auditDamageRow=true:=by kernel_rfl
theorem kf:(fun(P:Program) (f:FuncId) (fn:Func) (s:ChangeSpec) (c:OpenClaim)=>((c.wideKeys == (fn.params.toList++s.plain.varTypes P++fn.resultTypes.toList).any (P.wideKeysFrom ·)):Bool)) Tryz.pinned.checked.prog 4 Tryz.f4 Rows.auditDamageSpec Rows.auditDamageRow=true:=by kernel_rfl
theorem kc:(fun(P:Program) (f:FuncId) (fn:Func) (s:ChangeSpec) (c:OpenClaim)=>(s.vars.all (P.varReadable ·):Bool)) Tryz.pinned.checked.prog 4 Tryz.f4 Rows.auditDamageSpec Rows.auditDamageRow=true:=by kernel_rfl
theorem jy:(fun(P:Program) (f:FuncId) (fn:Func) (s:ChangeSpec) (c:OpenClaim)=>(fn.resultTypes.all (fun t=>P.readableRec t&&decide (t<P.types.size)):Bool)) Tryz.pinned.checked.prog 4 Tryz.f4 Rows.auditDamageSpec Rows.auditDamageRow=true:=by kernel_rfl
theorem jY:(fun(P:Program) (f:FuncId) (fn:Func) (s:ChangeSpec) (c:OpenClaim)=>((c.ifacesOut == fn.resultTypes.toList.any (P.ifacesRec ·)):Bool)) Tryz.pinned.checked.prog 4 Tryz.f4 Rows.auditDamageSpec Rows.auditDamageRow=true:=by kernel_rfl
theorem jx:(fun(P:Program) (f:FuncId) (fn:Func) (s:ChangeSpec) (c:OpenClaim)=>((c.loopsOut == fn.resultTypes.toList.any (P.loopsFrom ·)):Bool)) Tryz.pinned.checked.prog 4 Tryz.f4 Rows.auditDamageSpec Rows.auditDamageRow=true:=by kernel_rfl
theorem jQ:(fun(P:Program) (f:FuncId) (fn:Func) (s:ChangeSpec) (c:OpenClaim)=>((c.plainKeys == P.plainKeys):Bool)) Tryz.pinned.checked.prog 4 Tryz.f4 Rows.auditDamageSpec Rows.auditDamageRow=true:=by kernel_rfl
theorem jS:(fun(P:Program) (f:FuncId) (fn:Func) (s:ChangeSpec) (c:OpenClaim)=>(c.shortTexts.isNone:Bool)) Tryz.pinned.checked.prog 4 Tryz.f4 Rows.auditDamageSpec Rows.auditDamageRow=true:=by kernel_rfl
theorem jC:(fun(P:Program) (f:FuncId) (fn:Func) (s:ChangeSpec) (c:OpenClaim)=>(P.stopsHeard:Bool)) Tryz.pinned.checked.prog 4 Tryz.f4 Rows.auditDamageSpec Rows.auditDamageRow=true:=by kernel_rfl
theorem j7:(fun(P:Program) (f:FuncId) (fn:Func) (s:ChangeSpec) (c:OpenClaim)=>(P.mayEnter:Bool)) Tryz.pinned.checked.prog 4 Tryz.f4 Rows.auditDamageSpec Rows.auditDamageRow=true:=by kernel_rfl
theorem jI:(fun(P:Program) (f:FuncId) (fn:Func) (s:ChangeSpec) (c:OpenClaim)=>((c.lifted == P.liftsFinal):Bool)) Tryz.pinned.checked.prog 4 Tryz.f4 Rows.auditDamageSpec Rows.auditDamageRow=true:=by kernel_rfl
theorem jO:(fun(P:Program) (f:FuncId) (fn:Func) (s:ChangeSpec) (c:OpenClaim)=>((P.make == some c.make):Bool)) Tryz.pinned.checked.prog 4 Tryz.f4 Rows.auditDamageSpec Rows.auditDamageRow=true:=by kernel_rfl
theorem kb:(fun(P:Program) (f:FuncId) (fn:Func) (s:ChangeSpec) (c:OpenClaim)=>((c.kinds == (if c.domain.isEmpty then [] else fn.params.toList.map fun t=>match P.underlying t with | some (.int k)=>some k | _=>none)):Bool)) Tryz.pinned.checked.prog 4 Tryz.f4 Rows.auditDamageSpec Rows.auditDamageRow=true:=by kernel_rfl
theorem ka:(fun(P:Program) (f:FuncId) (fn:Func) (s:ChangeSpec) (c:OpenClaim)=>((c.pinned == c.pinnedBy):Bool)) Tryz.pinned.checked.prog 4 Tryz.f4 Rows.auditDamageSpec Rows.auditDamageRow=true:=by kernel_rfl
theorem jz:(fun(P:Program) (f:FuncId) (fn:Func) (s:ChangeSpec) (c:OpenClaim)=>((c.veiled == (fn.params.toList++s.plain.varTypes P++fn.resultTypes.toList).any (P.veiledRec ·)):Bool)) Tryz.pinned.checked.prog 4 Tryz.f4 Rows.auditDamageSpec Rows.auditDamageRow=true:=by kernel_rfl
theorem jM:(fun(P:Program) (f:FuncId) (fn:Func) (s:ChangeSpec) (c:OpenClaim)=>(c.veiledFits P fn.params.toList (fn.params.toList++s.plain.varTypes P++fn.resultTypes.toList):Bool)) Tryz.pinned.checked.prog 4 Tryz.f4 Rows.auditDamageSpec Rows.auditDamageRow=true:=by kernel_rfl
theorem aE {a b:Bool} (h:a=true) (k:b=true):(a&&b)=true:=by rw[h,k];rfl
theorem jo:joinedFacts Tryz.pinned.checked.prog 4 Tryz.f4 Rows.auditDamageSpec Rows.auditDamageRow=true:=
 aE (aE (aE (aE (aE (aE (aE (aE (aE (aE (aE (aE (aE (aE (aE (aE (aE (aE (aE (aE (aE (aE (aE (aE (aE (aE (aE (aE (aE (aE (aE lg kQ) kW) lr) kY) k9) kU) ld) lu) k5) jG) j_) j6) jF) kj) jD) j4) kf) kc) jy) jY) jx) jQ) jS) jC) j7) jI) jO) kb) ka) jz) jM
end Go.Proofs.YtlnhdpjnlffaoaaGreatDoor
