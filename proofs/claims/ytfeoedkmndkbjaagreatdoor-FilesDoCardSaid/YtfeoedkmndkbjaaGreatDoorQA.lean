/- Parts of the proof: ShD. -/
import Derived.Shelf.Strings.Builder1
import Derived.Test.YtfeoedkmndkbjaaGreatDoorProg
namespace Go.Proofs
open Go.Shelf
def Tryz.pt:Go.Shelf.Ren:=⟨fun | 166=>52 | 240=>99 | 276=>137 | n=>n,fun | 0=>0 | 3=>3 | 4=>4 | 5=>5 | 9=>9 | 20=>20 | 37=>23 | 70=>89 | 72=>91 | 75=>93 | 80=>96 | 164=>186 | n=>n,fun | n=>n⟩
theorem Tryz.CQ:Go.Proofs.Lays.n166 Tryz.prog Tryz.pt:={
 mixed:=by kernel_rfl
 f166:=Tryz.func52.trans (congrArg some (by kernel_rfl))
 f240:=Tryz.func99.trans (congrArg some (by kernel_rfl))
 f276:=Tryz.func137.trans (congrArg some (by kernel_rfl))
 t0:=Tryz.underlying0
 a0:=Tryz.isAgg0
 z0:=Tryz.sizeOf0
 v0:=Tryz.zeroValue0
 t3:=Tryz.underlying3
 a3:=Tryz.isAgg3
 z3:=Tryz.sizeOf3
 v3:=Tryz.zeroValue3
 t4:=Tryz.underlying4
 a4:=Tryz.isAgg4
 z4:=Tryz.sizeOf4
 v4:=Tryz.zeroValue4
 t9:=Tryz.underlying9
 a9:=Tryz.isAgg9
 z9:=Tryz.sizeOf9
 v9:=Tryz.zeroValue9
 t20:=Tryz.underlying20
 a20:=Tryz.isAgg20
 z20:=Tryz.sizeOf20
 v20:=Tryz.zeroValue20
 t37:=Tryz.underlying23
 a37:=Tryz.isAgg23
 z37:=Tryz.sizeOf23
 v37:=Tryz.zeroValue23
 t70:=Tryz.underlying89
 a70:=Tryz.isAgg89
 z70:=Tryz.sizeOf89
 v70:=Tryz.zeroValue89
 t72:=Tryz.underlying91
 a72:=Tryz.isAgg91
 z72:=Tryz.sizeOf91
 v72:=Tryz.zeroValue91
 t75:=Tryz.underlying93
 a75:=Tryz.isAgg93
 z75:=Tryz.sizeOf93
 v75:=Tryz.zeroValue93
 t164:=Tryz.underlying186
 a164:=Tryz.isAgg186
 z164:=Tryz.sizeOf186
 v164:=Tryz.zeroValue186 }
theorem Tryz.nn:Builder.Extra Tryz.prog Tryz.pt:={
 sizeBuilder:=by kernel_rfl
 liesBuilder:=by kernel_rfl
 t5:=Tryz.underlying5
 a5:=Tryz.isAgg5
 z5:=Tryz.sizeOf5
 v5:=Tryz.zeroValue5
 infoByte:=by kernel_rfl
 cellsByte:=by kernel_rfl
 sizeByte:=by kernel_rfl
 neB5:=by decide }
open Go.RowKit in
theorem Tryz.Builder_WriteString (B b:Nat) (bs:List Value) (s:ByteArray) (w:World) (h:Lib.IsBuilder 91 5 B b bs w) (hlen:bs.length+s.size≤140737488355328) (hBw:B≤w.heap.size) :
 Calls Tryz.prog 52 #[.pointer (some ⟨b,0,none⟩),.string s] w fun e w'=>e = .returned (.tuple #[.int .i64 s.size,.nilIface])∧(Lib.BuilderAt 91 5 B b (.pointer (some ⟨b,0,none⟩)) (bs++Lib.strCells s) w'∧Below B w w'):=Any.Builder_WriteString Tryz.CQ Tryz.nn B b bs s w h hlen hBw
def Tryz.oO:Go.Shelf.Ren:=⟨fun | 169=>53 | n=>n,fun | 70=>89 | 9=>9 | 0=>0 | 72=>91 | 37=>23 | 127=>151 | 3=>3 | 5=>5 | n=>n,fun | n=>n⟩
theorem Tryz.Cu:Go.Proofs.Lays.n169 Tryz.prog Tryz.oO:={
 mixed:=by kernel_rfl
 f169:=Tryz.func53.trans (congrArg some (by kernel_rfl))
 t0:=Tryz.underlying0
 a0:=Tryz.isAgg0
 z0:=Tryz.sizeOf0
 v0:=Tryz.zeroValue0
 t3:=Tryz.underlying3
 a3:=Tryz.isAgg3
 z3:=Tryz.sizeOf3
 v3:=Tryz.zeroValue3
 t9:=Tryz.underlying9
 a9:=Tryz.isAgg9
 z9:=Tryz.sizeOf9
 v9:=Tryz.zeroValue9
 t37:=Tryz.underlying23
 a37:=Tryz.isAgg23
 z37:=Tryz.sizeOf23
 v37:=Tryz.zeroValue23
 t70:=Tryz.underlying89
 a70:=Tryz.isAgg89
 z70:=Tryz.sizeOf89
 v70:=Tryz.zeroValue89
 t72:=Tryz.underlying91
 a72:=Tryz.isAgg91
 z72:=Tryz.sizeOf91
 v72:=Tryz.zeroValue91
 t127:=Tryz.underlying151
 a127:=Tryz.isAgg151
 z127:=Tryz.sizeOf151
 v127:=Tryz.zeroValue151 }
theorem Tryz.m7:Builder.Extra Tryz.prog Tryz.oO:={
 sizeBuilder:=by kernel_rfl
 liesBuilder:=by kernel_rfl
 t5:=Tryz.underlying5
 a5:=Tryz.isAgg5
 z5:=Tryz.sizeOf5
 v5:=Tryz.zeroValue5
 infoByte:=by kernel_rfl
 cellsByte:=by kernel_rfl
 sizeByte:=by kernel_rfl
 neB5:=by decide }
open Go.RowKit in
theorem Tryz.Builder_String_any (B b:Nat) (l:List UInt8) (w:World) (h:Lib.IsBuilder 91 5 B b (Lib.byteCells l) w) (hBw:B≤w.heap.size) :
 Calls Tryz.prog 53 #[.pointer (some ⟨b,0,none⟩)] w fun e w'=>e = .returned (.string ⟨l.toArray⟩)∧Below B w w':=Any.Builder_String_any Tryz.Cu Tryz.m7 B b l w h hBw
end Go.Proofs
