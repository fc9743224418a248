/- The closed facts of the row of auditCheck, each by itself. -/
import Derived.Test.YtlnhdpjnlffaoaaGreatDoorRows
import Derived.ProofKit
import Derived.KernelRfl
namespace Go.Proofs.YtlnhdpjnlffaoaaGreatDoor
open Go
set_option maxRecDepth 100000
set_option linter.unusedVariables false
theorem pG:(fun(P:Program) (f:FuncId) (fn:Func) (s:ChangeSpec) (c:OpenClaim)=>(c.wf (OpenSpec.ofChange s):Bool)) Tryz.pinned.checked.prog 3 Tryz.f3 Rows.auditCheckSpec Rows.auditCheckRow=true:=by kernel_rfl
theorem oR:(fun(P:Program) (f:FuncId) (fn:Func) (s:ChangeSpec) (c:OpenClaim)=>(laidOutB P:Bool)) Tryz.pinned.checked.prog 3 Tryz.f3 Rows.auditCheckSpec Rows.auditCheckRow=true:=by kernel_rfl
theorem o9:(fun(P:Program) (f:FuncId) (fn:Func) (s:ChangeSpec) (c:OpenClaim)=>(mapsRowed P:Bool)) Tryz.pinned.checked.prog 3 Tryz.f3 Rows.auditCheckSpec Rows.auditCheckRow=true:=by kernel_rfl
theorem n_:(fun(P:Program) (f:FuncId) (fn:Func) (s:ChangeSpec) (c:OpenClaim)=>(fn.params.all (P.readableRec ·):Bool)) Tryz.pinned.checked.prog 3 Tryz.f3 Rows.auditCheckSpec Rows.auditCheckRow=true:=by kernel_rfl
theorem nT:(fun(P:Program) (f:FuncId) (fn:Func) (s:ChangeSpec) (c:OpenClaim)=>(namedTie P c.named s.vars:Bool)) Tryz.pinned.checked.prog 3 Tryz.f3 Rows.auditCheckSpec Rows.auditCheckRow=true:=by kernel_rfl
theorem nY:(fun(P:Program) (f:FuncId) (fn:Func) (s:ChangeSpec) (c:OpenClaim)=>((c.stops == []):Bool)) Tryz.pinned.checked.prog 3 Tryz.f3 Rows.auditCheckSpec Rows.auditCheckRow=true:=by kernel_rfl
theorem nZ:(fun(P:Program) (f:FuncId) (fn:Func) (s:ChangeSpec) (c:OpenClaim)=>((P.stops == []):Bool)) Tryz.pinned.checked.prog 3 Tryz.f3 Rows.auditCheckSpec Rows.auditCheckRow=true:=by kernel_rfl
theorem o_:(fun(P:Program) (f:FuncId) (fn:Func) (s:ChangeSpec) (c:OpenClaim)=>((c.knobs == []):Bool)) Tryz.pinned.checked.prog 3 Tryz.f3 Rows.auditCheckSpec Rows.auditCheckRow=true:=by kernel_rfl
theorem n8:(fun(P:Program) (f:FuncId) (fn:Func) (s:ChangeSpec) (c:OpenClaim)=>((P.stopKnobs == []):Bool)) Tryz.pinned.checked.prog 3 Tryz.f3 Rows.auditCheckSpec Rows.auditCheckRow=true:=by kernel_rfl
theorem oK:(fun(P:Program) (f:FuncId) (fn:Func) (s:ChangeSpec) (c:OpenClaim)=>((c.inPlace == P.inPlace f):Bool)) Tryz.pinned.checked.prog 3 Tryz.f3 Rows.auditCheckSpec Rows.auditCheckRow=true:=by kernel_rfl
theorem mO:(fun(P:Program) (f:FuncId) (fn:Func) (s:ChangeSpec) (c:OpenClaim)=>((c.unfollowed == P.unfollowed f):Bool)) Tryz.pinned.checked.prog 3 Tryz.f3 Rows.auditCheckSpec Rows.auditCheckRow=true:=by kernel_rfl
theorem nq:(fun(P:Program) (f:FuncId) (fn:Func) (s:ChangeSpec) (c:OpenClaim)=>((c.recurses == P.recurses f):Bool)) Tryz.pinned.checked.prog 3 Tryz.f3 Rows.auditCheckSpec Rows.auditCheckRow=true:=by kernel_rfl
theorem nm:(fun(P:Program) (f:FuncId) (fn:Func) (s:ChangeSpec) (c:OpenClaim)=>((c.named == P.varsNamed f):Bool)) Tryz.pinned.checked.prog 3 Tryz.f3 Rows.auditCheckSpec Rows.auditCheckRow=true:=by kernel_rfl
theorem nc:(fun(P:Program) (f:FuncId) (fn:Func) (s:ChangeSpec) (c:OpenClaim)=>((c.maps == (fn.params.toList++s.plain.varTypes P).any (P.mapsRec ·)):Bool)) Tryz.pinned.checked.prog 3 Tryz.f3 Rows.auditCheckSpec Rows.auditCheckRow=true:=by kernel_rfl
theorem mF:(fun(P:Program) (f:FuncId) (fn:Func) (s:ChangeSpec) (c:OpenClaim)=>((c.ifaces == (fn.params.toList++s.plain.varTypes P).any (P.ifacesRec ·)):Bool)) Tryz.pinned.checked.prog 3 Tryz.f3 Rows.auditCheckSpec Rows.auditCheckRow=true:=by kernel_rfl
theorem nh:(fun(P:Program) (f:FuncId) (fn:Func) (s:ChangeSpec) (c:OpenClaim)=>((c.mapsOut == P.mapsAmong fn.resultTypes.toList):Bool)) Tryz.pinned.checked.prog 3 Tryz.f3 Rows.auditCheckSpec Rows.auditCheckRow=true:=by kernel_rfl
theorem mC:(fun(P:Program) (f:FuncId) (fn:Func) (s:ChangeSpec) (c:OpenClaim)=>((c.loops == (fn.params.toList++s.plain.varTypes P).any (P.loopsFrom ·)):Bool)) Tryz.pinned.checked.prog 3 Tryz.f3 Rows.auditCheckSpec Rows.auditCheckRow=true:=by kernel_rfl
theorem mE:(fun(P:Program) (f:FuncId) (fn:Func) (s:ChangeSpec) (c:OpenClaim)=>((c.wideKeys == (fn.params.toList++s.plain.varTypes P++fn.resultTypes.toList).any (P.wideKeysFrom ·)):Bool)) Tryz.pinned.checked.prog 3 Tryz.f3 Rows.auditCheckSpec Rows.auditCheckRow=true:=by kernel_rfl
theorem mH:(fun(P:Program) (f:FuncId) (fn:Func) (s:ChangeSpec) (c:OpenClaim)=>(s.vars.all (P.varReadable ·):Bool)) Tryz.pinned.checked.prog 3 Tryz.f3 Rows.auditCheckSpec Rows.auditCheckRow=true:=by kernel_rfl
theorem nu:(fun(P:Program) (f:FuncId) (fn:Func) (s:ChangeSpec) (c:OpenClaim)=>(fn.resultTypes.all (fun t=>P.readableRec t&&decide (t<P.types.size)):Bool)) Tryz.pinned.checked.prog 3 Tryz.f3 Rows.auditCheckSpec Rows.auditCheckRow=true:=by kernel_rfl
theorem mI:(fun(P:Program) (f:FuncId) (fn:Func) (s:ChangeSpec) (c:OpenClaim)=>((c.ifacesOut == fn.resultTypes.toList.any (P.ifacesRec ·)):Bool)) Tryz.pinned.checked.prog 3 Tryz.f3 Rows.auditCheckSpec Rows.auditCheckRow=true:=by kernel_rfl
theorem m7:(fun(P:Program) (f:FuncId) (fn:Func) (s:ChangeSpec) (c:OpenClaim)=>((c.loopsOut == fn.resultTypes.toList.any (P.loopsFrom ·)):Bool)) Tryz.pinned.checked.prog 3 Tryz.f3 Rows.auditCheckSpec Rows.auditCheckRow=true:=by kernel_rfl
theorem ng:(fun(P:Program) (f:FuncId) (fn:Func) (s:ChangeSpec) (c:OpenClaim)=>((c.plainKeys == P.plainKeys):Bool)) Tryz.pinned.checked.prog 3 Tryz.f3 Rows.auditCheckSpec Rows.auditCheckRow=true:=by kernel_rfl
theorem mU:(fun(P:Program) (f:FuncId) (fn:Func) (s:ChangeSpec) (c:OpenClaim)=>(c.shortTexts.isNone:Bool)) Tryz.pinned.checked.prog 3 Tryz.f3 Rows.auditCheckSpec Rows.auditCheckRow=true:=by kernel_rfl
theorem ni:(fun(P:Program) (f:FuncId) (fn:Func) (s:ChangeSpec) (c:OpenClaim)=>(P.stopsHeard:Bool)) Tryz.pinned.checked.prog 3 Tryz.f3 Rows.auditCheckSpec Rows.auditCheckRow=true:=by kernel_rfl
theorem mM:(fun(P:Program) (f:FuncId) (fn:Func) (s:ChangeSpec) (c:OpenClaim)=>(P.mayEnter:Bool)) Tryz.pinned.checked.prog 3 Tryz.f3 Rows.auditCheckSpec Rows.auditCheckRow=true:=by kernel_rfl
theorem mG:(fun(P:Program) (f:FuncId) (fn:Func) (s:ChangeSpec) (c:OpenClaim)=>((c.lifted == P.liftsFinal):Bool)) Tryz.pinned.checked.prog 3 Tryz.f3 Rows.auditCheckSpec Rows.auditCheckRow=true:=by kernel_rfl
theorem nk:(fun(P:Program) (f:FuncId) (fn:Func) (s:ChangeSpec) (c:OpenClaim)=>((P.make == some c.make):Bool)) Tryz.pinned.checked.prog 3 Tryz.f3 Rows.auditCheckSpec Rows.auditCheckRow=true:=by kernel_rfl
theorem mZ:(fun(P:Program) (f:FuncId) (fn:Func) (s:ChangeSpec) (c:OpenClaim)=>((c.kinds == (if c.domain.isEmpty then [] else fn.params.toList.map fun t=>match P.underlying t with | some (.int k)=>some k | _=>none)):Bool)) Tryz.pinned.checked.prog 3 Tryz.f3 Rows.auditCheckSpec Rows.auditCheckRow=true:=by kernel_rfl
theorem ns:(fun(P:Program) (f:FuncId) (fn:Func) (s:ChangeSpec) (c:OpenClaim)=>((c.pinned == c.pinnedBy):Bool)) Tryz.pinned.checked.prog 3 Tryz.f3 Rows.auditCheckSpec Rows.auditCheckRow=true:=by kernel_rfl
theorem nr:(fun(P:Program) (f:FuncId) (fn:Func) (s:ChangeSpec) (c:OpenClaim)=>((c.veiled == (fn.params.toList++s.plain.varTypes P++fn.resultTypes.toList).any (P.veiledRec ·)):Bool)) Tryz.pinned.checked.prog 3 Tryz.f3 Rows.auditCheckSpec Rows.auditCheckRow=true:=by kernel_rfl
theorem nt:(fun(P:Program) (f:FuncId) (fn:Func) (s:ChangeSpec) (c:OpenClaim)=>(c.veiledFits P fn.params.toList (fn.params.toList++s.plain.varTypes P++fn.resultTypes.toList):Bool)) Tryz.pinned.checked.prog 3 Tryz.f3 Rows.auditCheckSpec Rows.auditCheckRow=true:=by kernel_rfl
theorem aO {a b:Bool} (h:a=true) (k:b=true):(a&&b)=true:=by rw[h,k];rfl
theorem lD:joinedFacts Tryz.pinned.checked.prog 3 Tryz.f3 Rows.auditCheckSpec Rows.auditCheckRow=true:=
 aO (aO (aO (aO (aO (aO (aO (aO (aO (aO (aO (aO (aO (aO (aO (aO (aO (aO (aO (aO (aO (aO (aO (aO (aO (aO (aO (aO (aO (aO (aO pG oR) o9) n_) nT) nY) nZ) o_) n8) oK) mO) nq) nm) nc) mF) nh) mC) mE) mH) nu) mI) m7) ng) mU) ni) mM) mG) nk) mZ) ns) nr) nt
end Go.Proofs.YtlnhdpjnlffaoaaGreatDoor
