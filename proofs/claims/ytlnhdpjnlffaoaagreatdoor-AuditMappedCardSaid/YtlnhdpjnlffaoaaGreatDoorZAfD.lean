/- The closed facts of the row of auditMapped, each by itself. -/
import Derived.Test.YtlnhdpjnlffaoaaGreatDoorRows
import Derived.ProofKit
import Derived.KernelRfl
namespace Go.Proofs.YtlnhdpjnlffaoaaGreatDoor
open Go
set_option maxRecDepth 100000
set_option linter.unusedVariables false
theorem lv:(fun(P:Program) (f:FuncId) (fn:Func) (s:ChangeSpec) (c:OpenClaim)=>(c.wf (OpenSpec.ofChange s):Bool)) Tryz.pinned.checked.prog 5 Tryz.f5 Rows.auditMappedSpec Rows.auditMappedRow=true:=by kernel_rfl
theorem kQ:(fun(P:Program) (f:FuncId) (fn:Func) (s:ChangeSpec) (c:OpenClaim)=>(laidOutB P:Bool)) Tryz.pinned.checked.prog 5 Tryz.f5 Rows.auditMappedSpec Rows.auditMappedRow=true:=by kernel_rfl
theorem kR:(fun(P:Program) (f:FuncId) (fn:Func) (s:ChangeSpec) (c:OpenClaim)=>(mapsRowed P:Bool)) Tryz.pinned.checked.prog 5 Tryz.f5 Rows.auditMappedSpec Rows.auditMappedRow=true:=by kernel_rfl
theorem la:(fun(P:Program) (f:FuncId) (fn:Func) (s:ChangeSpec) (c:OpenClaim)=>(fn.params.all (P.readableRec ·):Bool)) Tryz.pinned.checked.prog 5 Tryz.f5 Rows.auditMappedSpec Rows.auditMappedRow=true:=by kernel_rfl
theorem lg:(fun(P:Program) (f:FuncId) (fn:Func) (s:ChangeSpec) (c:OpenClaim)=>(namedTie P c.named s.vars:Bool)) Tryz.pinned.checked.prog 5 Tryz.f5 Rows.auditMappedSpec Rows.auditMappedRow=true:=by kernel_rfl
theorem ll:(fun(P:Program) (f:FuncId) (fn:Func) (s:ChangeSpec) (c:OpenClaim)=>((c.stops == []):Bool)) Tryz.pinned.checked.prog 5 Tryz.f5 Rows.auditMappedSpec Rows.auditMappedRow=true:=by kernel_rfl
theorem lu:(fun(P:Program) (f:FuncId) (fn:Func) (s:ChangeSpec) (c:OpenClaim)=>((P.stops == []):Bool)) Tryz.pinned.checked.prog 5 Tryz.f5 Rows.auditMappedSpec Rows.auditMappedRow=true:=by kernel_rfl
theorem kX:(fun(P:Program) (f:FuncId) (fn:Func) (s:ChangeSpec) (c:OpenClaim)=>((c.knobs == []):Bool)) Tryz.pinned.checked.prog 5 Tryz.f5 Rows.auditMappedSpec Rows.auditMappedRow=true:=by kernel_rfl
theorem k7:(fun(P:Program) (f:FuncId) (fn:Func) (s:ChangeSpec) (c:OpenClaim)=>((P.stopKnobs == []):Bool)) Tryz.pinned.checked.prog 5 Tryz.f5 Rows.auditMappedSpec Rows.auditMappedRow=true:=by kernel_rfl
theorem kS:(fun(P:Program) (f:FuncId) (fn:Func) (s:ChangeSpec) (c:OpenClaim)=>((c.inPlace == P.inPlace f):Bool)) Tryz.pinned.checked.prog 5 Tryz.f5 Rows.auditMappedSpec Rows.auditMappedRow=true:=by kernel_rfl
theorem jL:(fun(P:Program) (f:FuncId) (fn:Func) (s:ChangeSpec) (c:OpenClaim)=>((c.unfollowed == P.unfollowed f):Bool)) Tryz.pinned.checked.prog 5 Tryz.f5 Rows.auditMappedSpec Rows.auditMappedRow=true:=by kernel_rfl
theorem j3:(fun(P:Program) (f:FuncId) (fn:Func) (s:ChangeSpec) (c:OpenClaim)=>((c.recurses == P.recurses f):Bool)) Tryz.pinned.checked.prog 5 Tryz.f5 Rows.auditMappedSpec Rows.auditMappedRow=true:=by kernel_rfl
theorem jC:(fun(P:Program) (f:FuncId) (fn:Func) (s:ChangeSpec) (c:OpenClaim)=>((c.named == P.varsNamed f):Bool)) Tryz.pinned.checked.prog 5 Tryz.f5 Rows.auditMappedSpec Rows.auditMappedRow=true:=by kernel_rfl
theorem jD:(fun(P:Program) (f:FuncId) (fn:Func) (s:ChangeSpec) (c:OpenClaim)=>((c.maps == (fn.params.toList++s.plain.varTypes P).any (P.mapsRec ·)):Bool)) Tryz.pinned.checked.prog 5 Tryz.f5 Rows.auditMappedSpec Rows.auditMappedRow=true:=by kernel_rfl
theorem jS:(fun(P:Program) (f:FuncId) (fn:Func) (s:ChangeSpec) (c:OpenClaim)=>((c.ifaces == (fn.params.toList++s.plain.varTypes P).any (P.ifacesRec ·)):Bool)) Tryz.pinned.checked.prog 5 Tryz.f5 Rows.auditMappedSpec Rows.auditMappedRow=true:=by kernel_rfl
theorem j9:(fun(P:Program) (f:FuncId) (fn:Func) (s:ChangeSpec) (c:OpenClaim)=>((c.mapsOut == P.mapsAmong fn.resultTypes.toList):Bool)) Tryz.pinned.checked.prog 5 Tryz.f5 Rows.auditMappedSpec Rows.auditMappedRow=true:=by kernel_rfl
theorem kj:(fun(P:Program) (f:FuncId) (fn:Func) (s:ChangeSpec) (c:OpenClaim)=>((c.loops == (fn.params.toList++s.plain.varTypes P).any (P.loopsFrom ·)):Bool)) Tryz.pinned.checked.prog 5 Tryz.f5 Rows.auditMappedSpec Rows.auditMappedRow=true:=by kernel_rfl
theorem jB:(fun(P:Program) (f:FuncId) (fn:Func) (s:ChangeSpec) (c:OpenClaim)=>((c.wideKeys == (fn.params.toList++s.plain.varTypes P++fn.resultTypes.toList).any (P.wideKeysFrom ·)):Bool)) Tryz.pinned.checked.prog 5 Tryz.f5 Rows.auditMappedSpec Rows.auditMappedRow=true:=by kernel_rfl
theorem kb:(fun(P:Program) (f:FuncId) (fn:Func) (s:ChangeSpec) (c:OpenClaim)=>(s.vars.all (P.varReadable ·):Bool)) Tryz.pinned.checked.prog 5 Tryz.f5 Rows.auditMappedSpec Rows.auditMappedRow=true:=by kernel_rfl
theorem ke:(fun(P:Program) (f:FuncId) (fn:Func) (s:ChangeSpec) (c:OpenClaim)=>(fn.resultTypes.all (fun t=>P.readableRec t&&decide (t<P.types.size)):Bool)) Tryz.pinned.checked.prog 5 Tryz.f5 Rows.auditMappedSpec Rows.auditMappedRow=true:=by kernel_rfl
theorem jA:(fun(P:Program) (f:FuncId) (fn:Func) (s:ChangeSpec) (c:OpenClaim)=>((c.ifacesOut == fn.resultTypes.toList.any (P.ifacesRec ·)):Bool)) Tryz.pinned.checked.prog 5 Tryz.f5 Rows.auditMappedSpec Rows.auditMappedRow=true:=by kernel_rfl
theorem ka:(fun(P:Program) (f:FuncId) (fn:Func) (s:ChangeSpec) (c:OpenClaim)=>((c.loopsOut == fn.resultTypes.toList.any (P.loopsFrom ·)):Bool)) Tryz.pinned.checked.prog 5 Tryz.f5 Rows.auditMappedSpec Rows.auditMappedRow=true:=by kernel_rfl
theorem jZ:(fun(P:Program) (f:FuncId) (fn:Func) (s:ChangeSpec) (c:OpenClaim)=>((c.plainKeys == P.plainKeys):Bool)) Tryz.pinned.checked.prog 5 Tryz.f5 Rows.auditMappedSpec Rows.auditMappedRow=true:=by kernel_rfl
theorem jE:(fun(P:Program) (f:FuncId) (fn:Func) (s:ChangeSpec) (c:OpenClaim)=>(c.shortTexts.isNone:Bool)) Tryz.pinned.checked.prog 5 Tryz.f5 Rows.auditMappedSpec Rows.auditMappedRow=true:=by kernel_rfl
theorem j4:(fun(P:Program) (f:FuncId) (fn:Func) (s:ChangeSpec) (c:OpenClaim)=>(P.stopsHeard:Bool)) Tryz.pinned.checked.prog 5 Tryz.f5 Rows.auditMappedSpec Rows.auditMappedRow=true:=by kernel_rfl
theorem jK:(fun(P:Program) (f:FuncId) (fn:Func) (s:ChangeSpec) (c:OpenClaim)=>(P.mayEnter:Bool)) Tryz.pinned.checked.prog 5 Tryz.f5 Rows.auditMappedSpec Rows.auditMappedRow=true:=by kernel_rfl
theorem jW:(fun(P:Program) (f:FuncId) (fn:Func) (s:ChangeSpec) (c:OpenClaim)=>((c.lifted == P.liftsFinal):Bool)) Tryz.pinned.checked.prog 5 Tryz.f5 Rows.auditMappedSpec Rows.auditMappedRow=true:=by kernel_rfl
theorem jR:(fun(P:Program) (f:FuncId) (fn:Func) (s:ChangeSpec) (c:OpenClaim)=>((P.make == some c.make):Bool)) Tryz.pinned.checked.prog 5 Tryz.f5 Rows.auditMappedSpec Rows.auditMappedRow=true:=by kernel_rfl
theorem kc:(fun(P:Program) (f:FuncId) (fn:Func) (s:ChangeSpec) (c:OpenClaim)=>((c.kinds == (if c.domain.isEmpty then [] else fn.params.toList.map fun t=>match P.underlying t with | some (.int k)=>some k | _=>none)):Bool)) Tryz.pinned.checked.prog 5 Tryz.f5 Rows.auditMappedSpec Rows.auditMappedRow=true:=by kernel_rfl
theorem j1:(fun(P:Program) (f:FuncId) (fn:Func) (s:ChangeSpec) (c:OpenClaim)=>((c.pinned == c.pinnedBy):Bool)) Tryz.pinned.checked.prog 5 Tryz.f5 Rows.auditMappedSpec Rows.auditMappedRow=true:=by kernel_rfl
theorem jV:(fun(P:Program) (f:FuncId) (fn:Func) (s:ChangeSpec) (c:OpenClaim)=>((c.veiled == (fn.params.toList++s.plain.varTypes P++fn.resultTypes.toList).any (P.veiledRec ·)):Bool)) Tryz.pinned.checked.prog 5 Tryz.f5 Rows.auditMappedSpec Rows.auditMappedRow=true:=by kernel_rfl
theorem jF:(fun(P:Program) (f:FuncId) (fn:Func) (s:ChangeSpec) (c:OpenClaim)=>(c.veiledFits P fn.params.toList (fn.params.toList++s.plain.varTypes P++fn.resultTypes.toList):Bool)) Tryz.pinned.checked.prog 5 Tryz.f5 Rows.auditMappedSpec Rows.auditMappedRow=true:=by kernel_rfl
theorem aF {a b:Bool} (h:a=true) (k:b=true):(a&&b)=true:=by rw[h,k];rfl
theorem i_:joinedFacts Tryz.pinned.checked.prog 5 Tryz.f5 Rows.auditMappedSpec Rows.auditMappedRow=true:=
 aF (aF (aF (aF (aF (aF (aF (aF (aF (aF (aF (aF (aF (aF (aF (aF (aF (aF (aF (aF (aF (aF (aF (aF (aF (aF (aF (aF (aF (aF (aF lv kQ) kR) la) lg) ll) lu) kX) k7) kS) jL) j3) jC) jD) jS) j9) kj) jB) kb) ke) jA) ka) jZ) jE) j4) jK) jW) jR) kc) j1) jV) jF
end Go.Proofs.YtlnhdpjnlffaoaaGreatDoor
