/- Parts of the proof: er, NzA, AaA, AaB, AaC, AaD, AaE, AaF, AaG, AaH, AaI, AaJ, AaK, AaL, AaM, AaN, AaO, AaP, AaQ. -/
import Derived.Test.YtlnhdpjnlffaoaaGreatDoorQA
import Derived.Test.YtlnhdpjnlffaoaaGreatDoorProg
import Derived.KernelRfl
import Derived.Test.YtlnhdpjnlffaoaaGreatDoorQC
namespace Go.Proofs.YtlnhdpjnlffaoaaGreatDoor
open Go Go.Sx
abbrev Z0:Value:=.int .i64 0
abbrev ZF:Value:=.bool false
abbrev ZS:Value:=.slice none 0 0
abbrev B6:List Value:=
 [Z0,Z0,Z0,ZF,ZF,ZF,Z0,ZS,Z0,Z0,Z0,ZF,ZF,ZF,Z0,ZS,Z0,Z0,Z0,ZF,ZF,ZF,Z0,ZS,Z0,Z0,Z0,ZF,ZF,ZF,Z0,ZS,Z0,Z0,Z0,ZF,ZF,ZF,Z0,ZS,Z0,Z0,Z0,ZF,ZF,ZF,Z0,ZS,Z0,Z0,Z0,ZF,ZF,ZF,Z0,ZS,Z0,Z0,Z0,ZF,ZF,ZF,Z0,ZS,Z0,Z0,Z0,ZF,ZF,ZF,Z0,ZS,Z0,Z0,Z0,ZF,ZF,ZF,Z0,ZS,Z0,Z0,Z0,ZF,ZF,ZF,Z0,ZS,Z0,Z0,Z0,ZF,ZF,ZF,Z0,ZS,Z0,Z0,Z0,ZF,ZF,ZF,Z0,ZS,Z0,Z0,Z0,ZF,ZF,ZF,Z0,ZS,Z0,Z0,Z0,ZF,ZF,ZF,Z0,ZS,Z0,Z0,Z0,ZF,ZF,ZF,Z0,ZS,Z0,Z0,Z0,ZF,ZF,ZF,Z0,ZS,Z0,Z0,Z0,ZF,ZF,ZF,Z0,ZS,Z0,Z0,Z0,ZF,ZF,ZF,Z0,ZS,Z0,Z0,Z0,ZF,ZF,ZF,Z0,ZS,Z0,Z0,Z0,ZF,ZF,ZF,Z0,ZS,Z0,Z0,Z0,ZF,ZF,ZF,Z0,ZS,Z0,Z0,Z0,ZF,ZF,ZF,Z0,ZS,Z0,Z0,Z0,ZF,ZF,ZF,Z0,ZS,Z0,Z0,Z0,ZF,ZF,ZF,Z0,ZS,Z0,Z0,Z0,ZF,ZF,ZF,Z0,ZS,Z0,Z0,Z0,ZF,ZF,ZF,Z0,ZS,Z0,Z0,Z0,ZF,ZF,ZF,Z0,ZS,Z0,Z0,Z0,ZF,ZF,ZF,Z0,ZS,Z0,Z0,Z0,ZF,ZF,ZF,Z0,ZS,Z0,Z0,Z0,ZF,ZF,ZF,Z0,ZS,Z0,Z0,Z0,ZF,ZF,ZF,Z0,ZS]
abbrev Ch:List Value:=
 [ZS,ZS,ZS,ZS,ZS,ZS,ZS,ZS,ZS,ZS,ZS,ZS,ZS,ZS,ZS,ZS,ZS,ZS,ZS,ZS,ZS,ZS,ZS,ZS,ZS,ZS,ZS,ZS,ZS,ZS,ZS,ZS]
abbrev Ci:List Value:=
 [ZS,Z0,Z0,Z0,ZS,ZS,ZF,Z0,Z0,Z0,ZS,Z0,Z0,Z0,ZS,ZF,Z0,Z0,Z0,ZS,Z0,Z0,Z0,ZS]
abbrev C7:List Value:=
 [ZS,Z0,Z0,Z0,ZS,ZS,ZF,Z0,Z0,Z0,ZS,Z0,Z0,Z0,ZS,ZF,Z0,Z0,Z0,ZS,Z0,Z0,Z0,ZS]
abbrev CJ:List Value:=
 [ZS,Z0,Z0,ZS,ZS,ZF,Z0,Z0,Z0,ZS,Z0,Z0,Z0,ZS,ZF,Z0,Z0,Z0,ZS,Z0,Z0,Z0,ZS]
abbrev Ce:List Value:=
 [ZS,Z0,Z0,ZS,ZS,ZF,Z0,Z0,Z0,ZS,Z0,Z0,Z0,ZS,ZF,Z0,Z0,Z0,ZS,Z0,Z0,Z0,ZS]
abbrev C5:List Value:=
 [Z0,Z0,Z0,ZF,ZF,ZF,Z0,ZS,Z0,Z0,Z0,ZF,ZF,ZF,Z0,ZS,Z0,Z0,Z0,ZF,ZF,ZF,Z0,ZS,Z0,Z0,Z0,ZF,ZF,ZF,Z0,ZS,Z0,Z0,Z0,ZF,ZF,ZF,Z0,ZS,Z0,Z0,Z0,ZF,ZF,ZF,Z0,ZS,Z0,Z0,Z0,ZF,ZF,ZF,Z0,ZS,Z0,Z0,Z0,ZF,ZF,ZF,Z0,ZS,Z0,Z0,Z0,ZF,ZF,ZF,Z0,ZS,Z0,Z0,Z0,ZF,ZF,ZF,Z0,ZS,Z0,Z0,Z0,ZF,ZF,ZF,Z0,ZS,Z0,Z0,Z0,ZF,ZF,ZF,Z0,ZS,Z0,Z0,Z0,ZF,ZF,ZF,Z0,ZS,Z0,Z0,Z0,ZF,ZF,ZF,Z0,ZS,Z0,Z0,Z0,ZF,ZF,ZF,Z0,ZS,Z0,Z0,Z0,ZF,ZF,ZF,Z0,ZS,Z0,Z0,Z0,ZF,ZF,ZF,Z0,ZS,Z0,Z0,Z0,ZF,ZF,ZF,Z0,ZS,Z0,Z0,Z0,ZF,ZF,ZF,Z0,ZS,Z0,Z0,Z0,ZF,ZF,ZF,Z0,ZS,Z0,Z0,Z0,ZF,ZF,ZF,Z0,ZS,Z0,Z0,Z0,ZF,ZF,ZF,Z0,ZS,Z0,Z0,Z0,ZF,ZF,ZF,Z0,ZS,Z0,Z0,Z0,ZF,ZF,ZF,Z0,ZS,Z0,Z0,Z0,ZF,ZF,ZF,Z0,ZS,Z0,Z0,Z0,ZF,ZF,ZF,Z0,ZS,Z0,Z0,Z0,ZF,ZF,ZF,Z0,ZS,Z0,Z0,Z0,ZF,ZF,ZF,Z0,ZS,Z0,Z0,Z0,ZF,ZF,ZF,Z0,ZS,Z0,Z0,Z0,ZF,ZF,ZF,Z0,ZS,Z0,Z0,Z0,ZF,ZF,ZF,Z0,ZS,Z0,Z0,Z0,ZF,ZF,ZF,Z0,ZS,ZF,ZF,ZF,ZF,ZF,ZF,ZF,ZF,ZF,ZF,ZF,ZS,ZS,Z0,ZS,ZS,ZS,ZS,ZS,ZS,ZS,ZS,ZS,ZS,ZS,ZS,ZS,ZS,ZS,ZS,ZS,ZS,ZS,ZS,ZS,ZS,ZS,ZS,ZS,ZS,ZS,ZS,ZS,ZS,ZS,ZS,ZS,ZS,ZS,ZS,ZS,ZS,ZS,ZF,Z0,Z0,Z0,ZS,Z0,Z0,Z0,ZS,Z0,Z0,ZF,ZF,ZS,Z0,Z0,Z0,ZS,ZS,ZF,Z0,Z0,Z0,ZS,Z0,Z0,Z0,ZS,ZF,Z0,Z0,Z0,ZS,Z0,Z0,Z0,ZS,ZS,Z0,Z0,ZS,ZS,ZF,Z0,Z0,Z0,ZS,Z0,Z0,Z0,ZS,ZF,Z0,Z0,Z0,ZS,Z0,Z0,Z0,ZS,Z0,ZS,ZF,ZF,ZF,ZF,ZF,ZS,ZS,ZS,ZS]
abbrev C0:List Value:=
 [Z0,Z0,Z0,ZF,ZF,ZF,Z0,ZS,Z0,Z0,Z0,ZF,ZF,ZF,Z0,ZS,Z0,Z0,Z0,ZF,ZF,ZF,Z0,ZS,Z0,Z0,Z0,ZF,ZF,ZF,Z0,ZS,Z0,Z0,Z0,ZF,ZF,ZF,Z0,ZS,Z0,Z0,Z0,ZF,ZF,ZF,Z0,ZS,Z0,Z0,Z0,ZF,ZF,ZF,Z0,ZS,Z0,Z0,Z0,ZF,ZF,ZF,Z0,ZS,Z0,Z0,Z0,ZF,ZF,ZF,Z0,ZS,Z0,Z0,Z0,ZF,ZF,ZF,Z0,ZS,Z0,Z0,Z0,ZF,ZF,ZF,Z0,ZS,Z0,Z0,Z0,ZF,ZF,ZF,Z0,ZS,Z0,Z0,Z0,ZF,ZF,ZF,Z0,ZS,Z0,Z0,Z0,ZF,ZF,ZF,Z0,ZS,Z0,Z0,Z0,ZF,ZF,ZF,Z0,ZS,Z0,Z0,Z0,ZF,ZF,ZF,Z0,ZS,Z0,Z0,Z0,ZF,ZF,ZF,Z0,ZS,Z0,Z0,Z0,ZF,ZF,ZF,Z0,ZS,Z0,Z0,Z0,ZF,ZF,ZF,Z0,ZS,Z0,Z0,Z0,ZF,ZF,ZF,Z0,ZS,Z0,Z0,Z0,ZF,ZF,ZF,Z0,ZS,Z0,Z0,Z0,ZF,ZF,ZF,Z0,ZS,Z0,Z0,Z0,ZF,ZF,ZF,Z0,ZS,Z0,Z0,Z0,ZF,ZF,ZF,Z0,ZS,Z0,Z0,Z0,ZF,ZF,ZF,Z0,ZS,Z0,Z0,Z0,ZF,ZF,ZF,Z0,ZS,Z0,Z0,Z0,ZF,ZF,ZF,Z0,ZS,Z0,Z0,Z0,ZF,ZF,ZF,Z0,ZS,Z0,Z0,Z0,ZF,ZF,ZF,Z0,ZS,Z0,Z0,Z0,ZF,ZF,ZF,Z0,ZS,Z0,Z0,Z0,ZF,ZF,ZF,Z0,ZS,Z0,Z0,Z0,ZF,ZF,ZF,Z0,ZS,ZF,ZF,ZF,ZF,ZF,ZF,ZF,ZF,ZF,ZF,ZF,ZS,ZS,Z0,ZS,ZS,ZS,ZS,ZS,ZS,ZS,ZS,ZS,ZS,ZS,ZS,ZS,ZS,ZS,ZS,ZS,ZS,ZS,ZS,ZS,ZS,ZS,ZS,ZS,ZS,ZS,ZS,ZS,ZS,ZS,ZS,ZS,ZS,ZS,ZS,ZS,ZS,ZS,ZF,Z0,Z0,Z0,ZS,Z0,Z0,Z0,ZS,Z0,Z0,ZF,ZF,ZS,Z0,Z0,Z0,ZS,ZS,ZF,Z0,Z0,Z0,ZS,Z0,Z0,Z0,ZS,ZF,Z0,Z0,Z0,ZS,Z0,Z0,Z0,ZS,ZS,Z0,Z0,ZS,ZS,ZF,Z0,Z0,Z0,ZS,Z0,Z0,Z0,ZS,ZF,Z0,Z0,Z0,ZS,Z0,Z0,Z0,ZS,Z0,ZS,ZF,ZF,ZF,ZF,ZF,ZS,ZS,ZS,ZS]
abbrev Cc:List Value:=
 [Z0,Z0,Z0,ZF,ZF,ZF,Z0,ZS,Z0,Z0,Z0,ZF,ZF,ZF,Z0,ZS,Z0,Z0,Z0,ZF,ZF,ZF,Z0,ZS,Z0,Z0,Z0,ZF,ZF,ZF,Z0,ZS,Z0,Z0,Z0,ZF,ZF,ZF,Z0,ZS,Z0,Z0,Z0,ZF,ZF,ZF,Z0,ZS,Z0,Z0,Z0,ZF,ZF,ZF,Z0,ZS,Z0,Z0,Z0,ZF,ZF,ZF,Z0,ZS,Z0,Z0,Z0,ZF,ZF,ZF,Z0,ZS,Z0,Z0,Z0,ZF,ZF,ZF,Z0,ZS,Z0,Z0,Z0,ZF,ZF,ZF,Z0,ZS,Z0,Z0,Z0,ZF,ZF,ZF,Z0,ZS,Z0,Z0,Z0,ZF,ZF,ZF,Z0,ZS,Z0,Z0,Z0,ZF,ZF,ZF,Z0,ZS,Z0,Z0,Z0,ZF,ZF,ZF,Z0,ZS,Z0,Z0,Z0,ZF,ZF,ZF,Z0,ZS,Z0,Z0,Z0,ZF,ZF,ZF,Z0,ZS,Z0,Z0,Z0,ZF,ZF,ZF,Z0,ZS,Z0,Z0,Z0,ZF,ZF,ZF,Z0,ZS,Z0,Z0,Z0,ZF,ZF,ZF,Z0,ZS,Z0,Z0,Z0,ZF,ZF,ZF,Z0,ZS,Z0,Z0,Z0,ZF,ZF,ZF,Z0,ZS,Z0,Z0,Z0,ZF,ZF,ZF,Z0,ZS,Z0,Z0,Z0,ZF,ZF,ZF,Z0,ZS,Z0,Z0,Z0,ZF,ZF,ZF,Z0,ZS,Z0,Z0,Z0,ZF,ZF,ZF,Z0,ZS,Z0,Z0,Z0,ZF,ZF,ZF,Z0,ZS,Z0,Z0,Z0,ZF,ZF,ZF,Z0,ZS,Z0,Z0,Z0,ZF,ZF,ZF,Z0,ZS,Z0,Z0,Z0,ZF,ZF,ZF,Z0,ZS,Z0,Z0,Z0,ZF,ZF,ZF,Z0,ZS,Z0,Z0,Z0,ZF,ZF,ZF,Z0,ZS]
abbrev Cw:List Value:=
 [ZS,ZS,ZS,ZS,ZS,ZS,ZS,ZS,ZS,ZS,ZS,ZS,ZS,ZS,ZS,ZS,ZS,ZS,ZS,ZS,ZS,ZS,ZS,ZS,ZS,ZS,ZS,ZS,ZS,ZS,ZS,ZS]
abbrev Am:List Value:=
 [ZS,Z0,Z0,Z0,ZS,ZS,ZF,Z0,Z0,Z0,ZS,Z0,Z0,ZS,ZF,Z0,Z0,Z0,ZS,Z0,Z0,ZS]
abbrev AO:List Value:=
 [ZS,Z0,Z0,Z0,ZS,ZS,ZF,Z0,Z0,Z0,ZS,Z0,Z0,ZS,ZF,Z0,Z0,Z0,ZS,Z0,Z0,ZS]
abbrev AJ:List Value:=
 [ZS,Z0,Z0,ZS,ZS,ZF,Z0,Z0,Z0,ZS,Z0,Z0,ZS,ZF,Z0,Z0,Z0,ZS,Z0,Z0,ZS]
abbrev AQ:List Value:=
 [ZS,Z0,Z0,ZS,ZS,ZF,Z0,Z0,Z0,ZS,Z0,Z0,ZS,ZF,Z0,Z0,Z0,ZS,Z0,Z0,ZS]
abbrev Ap:List Value:=
 [Z0,Z0,Z0,ZF,ZF,ZF,Z0,ZS,Z0,Z0,Z0,ZF,ZF,ZF,Z0,ZS,Z0,Z0,Z0,ZF,ZF,ZF,Z0,ZS,Z0,Z0,Z0,ZF,ZF,ZF,Z0,ZS,Z0,Z0,Z0,ZF,ZF,ZF,Z0,ZS,Z0,Z0,Z0,ZF,ZF,ZF,Z0,ZS,Z0,Z0,Z0,ZF,ZF,ZF,Z0,ZS,Z0,Z0,Z0,ZF,ZF,ZF,Z0,ZS,Z0,Z0,Z0,ZF,ZF,ZF,Z0,ZS,Z0,Z0,Z0,ZF,ZF,ZF,Z0,ZS,Z0,Z0,Z0,ZF,ZF,ZF,Z0,ZS,Z0,Z0,Z0,ZF,ZF,ZF,Z0,ZS,Z0,Z0,Z0,ZF,ZF,ZF,Z0,ZS,Z0,Z0,Z0,ZF,ZF,ZF,Z0,ZS,Z0,Z0,Z0,ZF,ZF,ZF,Z0,ZS,Z0,Z0,Z0,ZF,ZF,ZF,Z0,ZS,Z0,Z0,Z0,ZF,ZF,ZF,Z0,ZS,Z0,Z0,Z0,ZF,ZF,ZF,Z0,ZS,Z0,Z0,Z0,ZF,ZF,ZF,Z0,ZS,Z0,Z0,Z0,ZF,ZF,ZF,Z0,ZS,Z0,Z0,Z0,ZF,ZF,ZF,Z0,ZS,Z0,Z0,Z0,ZF,ZF,ZF,Z0,ZS,Z0,Z0,Z0,ZF,ZF,ZF,Z0,ZS,Z0,Z0,Z0,ZF,ZF,ZF,Z0,ZS,Z0,Z0,Z0,ZF,ZF,ZF,Z0,ZS,Z0,Z0,Z0,ZF,ZF,ZF,Z0,ZS,Z0,Z0,Z0,ZF,ZF,ZF,Z0,ZS,Z0,Z0,Z0,ZF,ZF,ZF,Z0,ZS,Z0,Z0,Z0,ZF,ZF,ZF,Z0,ZS,Z0,Z0,Z0,ZF,ZF,ZF,Z0,ZS,Z0,Z0,Z0,ZF,ZF,ZF,Z0,ZS,Z0,Z0,Z0,ZF,ZF,ZF,Z0,ZS,ZF,ZF,ZF,ZF,ZF,ZF,ZF,ZF,ZF,ZF,ZF,ZS,ZS,Z0,ZS,ZS,ZS,ZS,ZS,ZS,ZS,ZS,ZS,ZS,ZS,ZS,ZS,ZS,ZS,ZS,ZS,ZS,ZS,ZS,ZS,ZS,ZS,ZS,ZS,ZS,ZS,ZS,ZS,ZS,ZS,ZS,ZS,ZS,ZS,ZS,ZS,ZS,ZS,ZF,Z0,Z0,Z0,ZS,Z0,Z0,Z0,ZS,Z0,Z0,ZF,ZF,ZS,Z0,Z0,Z0,ZS,ZS,ZF,Z0,Z0,Z0,ZS,Z0,Z0,ZS,ZF,Z0,Z0,Z0,ZS,Z0,Z0,ZS,ZS,Z0,Z0,ZS,ZS,ZF,Z0,Z0,Z0,ZS,Z0,Z0,ZS,ZF,Z0,Z0,Z0,ZS,Z0,Z0,ZS,Z0,ZS,ZF,ZF,ZF,ZF,ZF,ZS,ZS,ZS,ZS]
abbrev AG:List Value:=
 [Z0,Z0,Z0,ZF,ZF,ZF,Z0,ZS,Z0,Z0,Z0,ZF,ZF,ZF,Z0,ZS,Z0,Z0,Z0,ZF,ZF,ZF,Z0,ZS,Z0,Z0,Z0,ZF,ZF,ZF,Z0,ZS,Z0,Z0,Z0,ZF,ZF,ZF,Z0,ZS,Z0,Z0,Z0,ZF,ZF,ZF,Z0,ZS,Z0,Z0,Z0,ZF,ZF,ZF,Z0,ZS,Z0,Z0,Z0,ZF,ZF,ZF,Z0,ZS,Z0,Z0,Z0,ZF,ZF,ZF,Z0,ZS,Z0,Z0,Z0,ZF,ZF,ZF,Z0,ZS,Z0,Z0,Z0,ZF,ZF,ZF,Z0,ZS,Z0,Z0,Z0,ZF,ZF,ZF,Z0,ZS,Z0,Z0,Z0,ZF,ZF,ZF,Z0,ZS,Z0,Z0,Z0,ZF,ZF,ZF,Z0,ZS,Z0,Z0,Z0,ZF,ZF,ZF,Z0,ZS,Z0,Z0,Z0,ZF,ZF,ZF,Z0,ZS,Z0,Z0,Z0,ZF,ZF,ZF,Z0,ZS,Z0,Z0,Z0,ZF,ZF,ZF,Z0,ZS,Z0,Z0,Z0,ZF,ZF,ZF,Z0,ZS,Z0,Z0,Z0,ZF,ZF,ZF,Z0,ZS,Z0,Z0,Z0,ZF,ZF,ZF,Z0,ZS,Z0,Z0,Z0,ZF,ZF,ZF,Z0,ZS,Z0,Z0,Z0,ZF,ZF,ZF,Z0,ZS,Z0,Z0,Z0,ZF,ZF,ZF,Z0,ZS,Z0,Z0,Z0,ZF,ZF,ZF,Z0,ZS,Z0,Z0,Z0,ZF,ZF,ZF,Z0,ZS,Z0,Z0,Z0,ZF,ZF,ZF,Z0,ZS,Z0,Z0,Z0,ZF,ZF,ZF,Z0,ZS,Z0,Z0,Z0,ZF,ZF,ZF,Z0,ZS,Z0,Z0,Z0,ZF,ZF,ZF,Z0,ZS,Z0,Z0,Z0,ZF,ZF,ZF,Z0,ZS,Z0,Z0,Z0,ZF,ZF,ZF,Z0,ZS,ZF,ZF,ZF,ZF,ZF,ZF,ZF,ZF,ZF,ZF,ZF,ZS,ZS,Z0,ZS,ZS,ZS,ZS,ZS,ZS,ZS,ZS,ZS,ZS,ZS,ZS,ZS,ZS,ZS,ZS,ZS,ZS,ZS,ZS,ZS,ZS,ZS,ZS,ZS,ZS,ZS,ZS,ZS,ZS,ZS,ZS,ZS,ZS,ZS,ZS,ZS,ZS,ZS,ZF,Z0,Z0,Z0,ZS,Z0,Z0,Z0,ZS,Z0,Z0,ZF,ZF,ZS,Z0,Z0,Z0,ZS,ZS,ZF,Z0,Z0,Z0,ZS,Z0,Z0,ZS,ZF,Z0,Z0,Z0,ZS,Z0,Z0,ZS,ZS,Z0,Z0,ZS,ZS,ZF,Z0,Z0,Z0,ZS,Z0,Z0,ZS,ZF,Z0,Z0,Z0,ZS,Z0,Z0,ZS,Z0,ZS,ZF,ZF,ZF,ZF,ZF,ZS,ZS,ZS,ZS]
abbrev Bm:List Value:=
 [Z0,Z0,Z0,ZF,ZF,ZF,Z0,ZS,Z0,Z0,Z0,ZF,ZF,ZF,Z0,ZS,Z0,Z0,Z0,ZF,ZF,ZF,Z0,ZS,Z0,Z0,Z0,ZF,ZF,ZF,Z0,ZS,Z0,Z0,Z0,ZF,ZF,ZF,Z0,ZS,Z0,Z0,Z0,ZF,ZF,ZF,Z0,ZS,Z0,Z0,Z0,ZF,ZF,ZF,Z0,ZS,Z0,Z0,Z0,ZF,ZF,ZF,Z0,ZS,Z0,Z0,Z0,ZF,ZF,ZF,Z0,ZS,Z0,Z0,Z0,ZF,ZF,ZF,Z0,ZS,Z0,Z0,Z0,ZF,ZF,ZF,Z0,ZS,Z0,Z0,Z0,ZF,ZF,ZF,Z0,ZS,Z0,Z0,Z0,ZF,ZF,ZF,Z0,ZS,Z0,Z0,Z0,ZF,ZF,ZF,Z0,ZS,Z0,Z0,Z0,ZF,ZF,ZF,Z0,ZS,Z0,Z0,Z0,ZF,ZF,ZF,Z0,ZS,Z0,Z0,Z0,ZF,ZF,ZF,Z0,ZS,Z0,Z0,Z0,ZF,ZF,ZF,Z0,ZS,Z0,Z0,Z0,ZF,ZF,ZF,Z0,ZS,Z0,Z0,Z0,ZF,ZF,ZF,Z0,ZS,Z0,Z0,Z0,ZF,ZF,ZF,Z0,ZS,Z0,Z0,Z0,ZF,ZF,ZF,Z0,ZS,Z0,Z0,Z0,ZF,ZF,ZF,Z0,ZS,Z0,Z0,Z0,ZF,ZF,ZF,Z0,ZS,Z0,Z0,Z0,ZF,ZF,ZF,Z0,ZS,Z0,Z0,Z0,ZF,ZF,ZF,Z0,ZS,Z0,Z0,Z0,ZF,ZF,ZF,Z0,ZS,Z0,Z0,Z0,ZF,ZF,ZF,Z0,ZS,Z0,Z0,Z0,ZF,ZF,ZF,Z0,ZS,Z0,Z0,Z0,ZF,ZF,ZF,Z0,ZS,Z0,Z0,Z0,ZF,ZF,ZF,Z0,ZS,Z0,Z0,Z0,ZF,ZF,ZF,Z0,ZS,ZF,ZF,ZF,ZF,ZF,ZF,ZF,ZF,ZF,ZF,ZF,ZS,ZS,Z0,ZS,ZS,ZS,ZS,ZS,ZS,ZS,ZS,ZS,ZS,ZS,ZS,ZS,ZS,ZS,ZS,ZS,ZS,ZS,ZS,ZS,ZS,ZS,ZS,ZS,ZS,ZS,ZS,ZS,ZS,ZS,ZS,ZS,ZS,ZS,ZS,ZS,ZS,ZS,ZF,Z0,Z0,Z0,ZS,Z0,Z0,Z0,ZS,Z0,Z0,ZF,ZF,ZS,Z0,Z0,Z0,ZS,ZS,ZF,Z0,Z0,Z0,ZS,Z0,Z0,ZS,ZF,Z0,Z0,Z0,ZS,Z0,Z0,ZS,ZS,Z0,Z0,ZS,ZS,ZF,Z0,Z0,Z0,ZS,Z0,Z0,ZS,ZF,Z0,Z0,Z0,ZS,Z0,Z0,ZS,Z0,ZS,ZF,ZF,ZF,ZF,ZF,ZS,ZS,ZS,ZS]
abbrev A6:List Value:=
 [Z0,Z0,Z0,ZF,ZF,ZF,Z0,ZS,Z0,Z0,Z0,ZF,ZF,ZF,Z0,ZS,Z0,Z0,Z0,ZF,ZF,ZF,Z0,ZS,Z0,Z0,Z0,ZF,ZF,ZF,Z0,ZS,Z0,Z0,Z0,ZF,ZF,ZF,Z0,ZS,Z0,Z0,Z0,ZF,ZF,ZF,Z0,ZS,Z0,Z0,Z0,ZF,ZF,ZF,Z0,ZS,Z0,Z0,Z0,ZF,ZF,ZF,Z0,ZS,Z0,Z0,Z0,ZF,ZF,ZF,Z0,ZS,Z0,Z0,Z0,ZF,ZF,ZF,Z0,ZS,Z0,Z0,Z0,ZF,ZF,ZF,Z0,ZS,Z0,Z0,Z0,ZF,ZF,ZF,Z0,ZS,Z0,Z0,Z0,ZF,ZF,ZF,Z0,ZS,Z0,Z0,Z0,ZF,ZF,ZF,Z0,ZS,Z0,Z0,Z0,ZF,ZF,ZF,Z0,ZS,Z0,Z0,Z0,ZF,ZF,ZF,Z0,ZS,Z0,Z0,Z0,ZF,ZF,ZF,Z0,ZS,Z0,Z0,Z0,ZF,ZF,ZF,Z0,ZS,Z0,Z0,Z0,ZF,ZF,ZF,Z0,ZS,Z0,Z0,Z0,ZF,ZF,ZF,Z0,ZS,Z0,Z0,Z0,ZF,ZF,ZF,Z0,ZS,Z0,Z0,Z0,ZF,ZF,ZF,Z0,ZS,Z0,Z0,Z0,ZF,ZF,ZF,Z0,ZS,Z0,Z0,Z0,ZF,ZF,ZF,Z0,ZS,Z0,Z0,Z0,ZF,ZF,ZF,Z0,ZS,Z0,Z0,Z0,ZF,ZF,ZF,Z0,ZS,Z0,Z0,Z0,ZF,ZF,ZF,Z0,ZS,Z0,Z0,Z0,ZF,ZF,ZF,Z0,ZS,Z0,Z0,Z0,ZF,ZF,ZF,Z0,ZS,Z0,Z0,Z0,ZF,ZF,ZF,Z0,ZS,Z0,Z0,Z0,ZF,ZF,ZF,Z0,ZS,Z0,Z0,Z0,ZF,ZF,ZF,Z0,ZS,ZF,ZF,ZF,ZF,ZF,ZF,ZF,ZF,ZF,ZF,ZF,ZS,ZS,Z0,ZS,ZS,ZS,ZS,ZS,ZS,ZS,ZS,ZS,ZS,ZS,ZS,ZS,ZS,ZS,ZS,ZS,ZS,ZS,ZS,ZS,ZS,ZS,ZS,ZS,ZS,ZS,ZS,ZS,ZS,ZS,ZS,ZS,ZS,ZS,ZS,ZS,ZS,ZS,ZF,Z0,Z0,Z0,ZS,Z0,Z0,Z0,ZS,Z0,Z0,ZF,ZF,ZS,Z0,Z0,Z0,ZS,ZS,ZF,Z0,Z0,Z0,ZS,Z0,Z0,ZS,ZF,Z0,Z0,Z0,ZS,Z0,Z0,ZS,ZS,Z0,Z0,ZS,ZS,ZF,Z0,Z0,Z0,ZS,Z0,Z0,ZS,ZF,Z0,Z0,Z0,ZS,Z0,Z0,ZS,Z0,ZS,ZF,ZF,ZF,ZF,ZF,ZS,ZS,ZS,ZS]
abbrev Bb:List Value:=
 [ZF,ZF,ZF,Z0,ZF,ZF,ZF,Z0,ZF,ZF,ZF,Z0,ZF,ZF,ZF,Z0,ZF,ZF,ZF,Z0,ZF,ZF,ZF,Z0,ZF,ZF,ZF,Z0,ZF,ZF,ZF,Z0,ZF,ZF,ZF,Z0,ZF,ZF,ZF,Z0,ZF,ZF,ZF,Z0,ZF,ZF,ZF,Z0,ZF,ZF,ZF,Z0,ZF,ZF,ZF,Z0,ZF,ZF,ZF,Z0,ZF,ZF,ZF,Z0,ZF,ZF,ZF,Z0,ZF,ZF,ZF,Z0,ZF,ZF,ZF,Z0,ZF,ZF,ZF,Z0,ZF,ZF,ZF,Z0,ZF,ZF,ZF,Z0,ZF,ZF,ZF,Z0,ZF,ZF,ZF,Z0,ZF,ZF,ZF,Z0,ZF,ZF,ZF,Z0,ZF,ZF,ZF,Z0,ZF,ZF,ZF,Z0,ZF,ZF,ZF,Z0,ZF,ZF,ZF,Z0,ZF,ZF,ZF,Z0,ZF,ZF,ZF,Z0]
abbrev Ac:List Value:=
 [ZF,ZF,ZF,Z0,ZF,ZF,ZF,Z0,ZF,ZF,ZF,Z0,ZF,ZF,ZF,Z0,ZF,ZF,ZF,Z0,ZF,ZF,ZF,Z0,ZF,ZF,ZF,Z0,ZF,ZF,ZF,Z0,ZF,ZF,ZF,Z0,ZF,ZF,ZF,Z0,ZF,ZF,ZF,Z0,ZF,ZF,ZF,Z0,ZF,ZF,ZF,Z0,ZF,ZF,ZF,Z0,ZF,ZF,ZF,Z0,ZF,ZF,ZF,Z0,ZF,ZF,ZF,Z0,ZF,ZF,ZF,Z0,ZF,ZF,ZF,Z0,ZF,ZF,ZF,Z0,ZF,ZF,ZF,Z0,ZF,ZF,ZF,Z0,ZF,ZF,ZF,Z0,ZF,ZF,ZF,Z0,ZF,ZF,ZF,Z0,ZF,ZF,ZF,Z0,ZF,ZF,ZF,Z0,ZF,ZF,ZF,Z0,ZF,ZF,ZF,Z0,ZF,ZF,ZF,Z0,ZF,ZF,ZF,Z0,ZF,ZF,ZF,Z0]
abbrev An:List Value:=
 [Z0,Z0,.string ⟨#[]⟩,Z0,Z0,Z0,.string ⟨#[]⟩,Z0,Z0,Z0,.string ⟨#[]⟩,Z0,Z0,Z0,.string ⟨#[]⟩,Z0,Z0,Z0,.string ⟨#[]⟩,Z0,Z0,Z0,.string ⟨#[]⟩,Z0,Z0,Z0,.string ⟨#[]⟩,Z0,Z0,Z0,.string ⟨#[]⟩,Z0,Z0,Z0,.string ⟨#[]⟩,Z0,Z0,Z0,.string ⟨#[]⟩,Z0,Z0,Z0,.string ⟨#[]⟩,Z0,Z0,Z0,.string ⟨#[]⟩,Z0,Z0,Z0,.string ⟨#[]⟩,Z0,Z0,Z0,.string ⟨#[]⟩,Z0,Z0,Z0,.string ⟨#[]⟩,Z0,Z0,Z0,.string ⟨#[]⟩,Z0,Z0,Z0,.string ⟨#[]⟩,Z0,Z0,Z0,.string ⟨#[]⟩,Z0,Z0,Z0,.string ⟨#[]⟩,Z0,Z0,Z0,.string ⟨#[]⟩,Z0,Z0,Z0,.string ⟨#[]⟩,Z0,Z0,Z0,.string ⟨#[]⟩,Z0,Z0,Z0,.string ⟨#[]⟩,Z0,Z0,Z0,.string ⟨#[]⟩,Z0,Z0,Z0,.string ⟨#[]⟩,Z0,Z0,Z0,.string ⟨#[]⟩,Z0,Z0,Z0,.string ⟨#[]⟩,Z0,Z0,Z0,.string ⟨#[]⟩,Z0]
set_option maxHeartbeats 4000000 in
set_option maxRecDepth 100000 in
def aY:er:=
 [(2,⟨.int .i64,1,[.int .i64 0],[],8⟩),
  (3,⟨.int .i64,1,[.int .i64 0],[],8⟩),
  (4,⟨.bool,1,[.bool false],[],1⟩),
  (5,⟨.int .u8,1,[.int .u8 0],[],1⟩),
  (9,⟨.str,1,[.string ⟨#[]⟩],[],16⟩),
  (12,⟨.int .u64,1,[.int .u64 0],[],8⟩),
  (13,⟨.struct,2,[.string ⟨#[]⟩,.int .u64 0],[(0,1,false),(1,1,false)],24⟩),
  (21,⟨.int .i32,1,[.int .i32 0],[],4⟩),
  (22,⟨.slice 5,1,[.slice none 0 0],[],24⟩),
  (23,⟨.struct,8,[.int .i64 0,.int .i64 0,.int .i64 0,.bool false,.bool false,.bool false,.int .i64 0,.slice none 0 0],[(0,1,false),(1,1,false),(2,1,false),(3,1,false),(4,1,false),(5,1,false),(6,1,false),(7,1,false)],64⟩),
  (24,⟨.struct,8,[.int .i64 0,.int .i64 0,.int .i64 0,.bool false,.bool false,.bool false,.int .i64 0,.slice none 0 0],[(0,1,false),(1,1,false),(2,1,false),(3,1,false),(4,1,false),(5,1,false),(6,1,false),(7,1,false)],64⟩),
  (25,⟨.arr 32 24,256,B6,[],2048⟩),
  (26,⟨.arr 11 4,11,[.bool false,.bool false,.bool false,.bool false,.bool false,.bool false,.bool false,.bool false,.bool false,.bool false,.bool false],[],11⟩),
  (27,⟨.slice 206,1,[.slice none 0 0],[],24⟩),
  (28,⟨.slice 154,1,[.slice none 0 0],[],24⟩),
  (29,⟨.struct,2,[.slice none 0 0,.slice none 0 0],[(0,1,false),(1,1,false)],48⟩),
  (30,⟨.struct,2,[.slice none 0 0,.slice none 0 0],[(0,1,false),(1,1,false)],48⟩),
  (31,⟨.slice 158,1,[.slice none 0 0],[],24⟩),
  (32,⟨.struct,2,[.int .i64 0,.slice none 0 0],[(0,1,false),(1,1,false)],32⟩),
  (33,⟨.struct,2,[.int .i64 0,.slice none 0 0],[(0,1,false),(1,1,false)],32⟩),
  (34,⟨.slice 164,1,[.slice none 0 0],[],24⟩),
  (35,⟨.slice 164,1,[.slice none 0 0],[],24⟩),
  (36,⟨.slice 167,1,[.slice none 0 0],[],24⟩),
  (37,⟨.slice 167,1,[.slice none 0 0],[],24⟩),
  (38,⟨.slice 3,1,[.slice none 0 0],[],24⟩),
  (39,⟨.slice 3,1,[.slice none 0 0],[],24⟩),
  (40,⟨.slice 22,1,[.slice none 0 0],[],24⟩),
  (41,⟨.struct,1,[.slice none 0 0],[(0,1,false)],24⟩),
  (42,⟨.struct,1,[.slice none 0 0],[(0,1,false)],24⟩),
  (43,⟨.slice 135,1,[.slice none 0 0],[],24⟩),
  (44,⟨.slice 135,1,[.slice none 0 0],[],24⟩),
  (45,⟨.arr 32 44,32,Ch,[],768⟩),
  (46,⟨.slice 133,1,[.slice none 0 0],[],24⟩),
  (47,⟨.slice 133,1,[.slice none 0 0],[],24⟩),
  (48,⟨.struct,4,[.int .i64 0,.int .i64 0,.int .i64 0,.slice none 0 0],[(0,1,false),(1,1,false),(2,1,false),(3,1,false)],48⟩),
  (49,⟨.struct,4,[.int .i64 0,.int .i64 0,.int .i64 0,.slice none 0 0],[(0,1,false),(1,1,false),(2,1,false),(3,1,false)],48⟩),
  (50,⟨.struct,3,[.int .i64 0,.int .i64 0,.slice none 0 0],[(0,1,false),(1,1,false),(2,1,false)],40⟩),
  (51,⟨.struct,3,[.int .i64 0,.int .i64 0,.slice none 0 0],[(0,1,false),(1,1,false),(2,1,false)],40⟩),
  (52,⟨.struct,9,[.bool false,.int .i64 0,.int .i64 0,.int .i64 0,.slice none 0 0,.int .i64 0,.int .i64 0,.int .i64 0,.slice none 0 0],[(0,1,false),(1,4,true),(5,1,false),(6,3,true)],104⟩),
  (53,⟨.struct,9,[.bool false,.int .i64 0,.int .i64 0,.int .i64 0,.slice none 0 0,.int .i64 0,.int .i64 0,.int .i64 0,.slice none 0 0],[(0,1,false),(1,4,true),(5,1,false),(6,3,true)],104⟩),
  (54,⟨.struct,10,[.slice none 0 0,.bool false,.int .i64 0,.int .i64 0,.int .i64 0,.slice none 0 0,.int .i64 0,.int .i64 0,.int .i64 0,.slice none 0 0],[(0,1,false),(1,9,true)],128⟩),
  (55,⟨.struct,10,[.slice none 0 0,.bool false,.int .i64 0,.int .i64 0,.int .i64 0,.slice none 0 0,.int .i64 0,.int .i64 0,.int .i64 0,.slice none 0 0],[(0,1,false),(1,9,true)],128⟩),
  (56,⟨.struct,4,[.int .i64 0,.int .i64 0,.bool false,.bool false],[(0,1,false),(1,1,false),(2,1,false),(3,1,false)],24⟩),
  (57,⟨.struct,4,[.int .i64 0,.int .i64 0,.bool false,.bool false],[(0,1,false),(1,1,false),(2,1,false),(3,1,false)],24⟩),
  (58,⟨.slice 174,1,[.slice none 0 0],[],24⟩),
  (59,⟨.struct,24,Ci,[(0,1,false),(1,1,false),(2,1,false),(3,1,false),(4,1,false),(5,1,false),(6,9,true),(15,9,true)],304⟩),
  (60,⟨.struct,24,C7,[(0,1,false),(1,1,false),(2,1,false),(3,1,false),(4,1,false),(5,1,false),(6,9,true),(15,9,true)],304⟩),
  (61,⟨.struct,23,CJ,[(0,1,false),(1,1,false),(2,1,false),(3,1,false),(4,1,false),(5,9,true),(14,9,true)],296⟩),
  (62,⟨.struct,23,Ce,[(0,1,false),(1,1,false),(2,1,false),(3,1,false),(4,1,false),(5,9,true),(14,9,true)],296⟩),
  (63,⟨.slice 177,1,[.slice none 0 0],[],24⟩),
  (64,⟨.struct,2,[.int .i64 0,.slice none 0 0],[(0,1,false),(1,1,false)],32⟩),
  (65,⟨.struct,2,[.int .i64 0,.slice none 0 0],[(0,1,false),(1,1,false)],32⟩),
  (66,⟨.arr 5 4,5,[.bool false,.bool false,.bool false,.bool false,.bool false],[],5⟩),
  (67,⟨.slice 180,1,[.slice none 0 0],[],24⟩),
  (68,⟨.struct,6,[.bool false,.bool false,.bool false,.bool false,.bool false,.slice none 0 0],[(0,5,true),(5,1,false)],32⟩),
  (69,⟨.struct,6,[.bool false,.bool false,.bool false,.bool false,.bool false,.slice none 0 0],[(0,5,true),(5,1,false)],32⟩),
  (70,⟨.slice 140,1,[.slice none 0 0],[],24⟩),
  (71,⟨.slice 222,1,[.slice none 0 0],[],24⟩),
  (72,⟨.slice 171,1,[.slice none 0 0],[],24⟩),
  (73,⟨.struct,380,C5,[(0,256,true),(256,11,true),(267,2,true),(269,2,true),(271,1,false),(272,1,false),(273,1,false),(274,1,true),(275,32,true),(307,1,false),(308,10,true),(318,4,true),(322,24,true),(346,23,true),(369,2,true),(371,6,true),(377,1,false),(378,1,false),(379,1,false)],3920⟩),
  (74,⟨.struct,380,C0,[(0,256,true),(256,11,true),(267,2,true),(269,2,true),(271,1,false),(272,1,false),(273,1,false),(274,1,true),(275,32,true),(307,1,false),(308,10,true),(318,4,true),(322,24,true),(346,23,true),(369,2,true),(371,6,true),(377,1,false),(378,1,false),(379,1,false)],3920⟩),
  (77,⟨.struct,8,[.int .i64 0,.int .i64 0,.int .i64 0,.bool false,.bool false,.bool false,.int .i64 0,.slice none 0 0],[(0,1,false),(1,1,false),(2,1,false),(3,1,false),(4,1,false),(5,1,false),(6,1,false),(7,1,false)],64⟩),
  (78,⟨.arr 32 77,256,Cc,[],2048⟩),
  (79,⟨.slice 153,1,[.slice none 0 0],[],24⟩),
  (80,⟨.struct,2,[.slice none 0 0,.slice none 0 0],[(0,1,false),(1,1,false)],48⟩),
  (81,⟨.struct,2,[.slice none 0 0,.slice none 0 0],[(0,1,false),(1,1,false)],48⟩),
  (82,⟨.slice 161,1,[.slice none 0 0],[],24⟩),
  (83,⟨.struct,2,[.int .i64 0,.slice none 0 0],[(0,1,false),(1,1,false)],32⟩),
  (84,⟨.struct,2,[.int .i64 0,.slice none 0 0],[(0,1,false),(1,1,false)],32⟩),
  (85,⟨.slice 163,1,[.slice none 0 0],[],24⟩),
  (86,⟨.slice 163,1,[.slice none 0 0],[],24⟩),
  (87,⟨.slice 166,1,[.slice none 0 0],[],24⟩),
  (88,⟨.slice 166,1,[.slice none 0 0],[],24⟩),
  (89,⟨.slice 3,1,[.slice none 0 0],[],24⟩),
  (90,⟨.struct,1,[.slice none 0 0],[(0,1,false)],24⟩),
  (91,⟨.slice 136,1,[.slice none 0 0],[],24⟩),
  (92,⟨.slice 136,1,[.slice none 0 0],[],24⟩),
  (93,⟨.arr 32 92,32,Cw,[],768⟩),
  (94,⟨.slice 168,1,[.slice none 0 0],[],24⟩),
  (95,⟨.slice 168,1,[.slice none 0 0],[],24⟩),
  (96,⟨.struct,4,[.int .i64 0,.int .i64 0,.int .i64 0,.slice none 0 0],[(0,1,false),(1,1,false),(2,1,false),(3,1,false)],48⟩),
  (97,⟨.struct,3,[.int .i64 0,.int .i64 0,.slice none 0 0],[(0,1,false),(1,1,false),(2,1,false)],40⟩),
  (98,⟨.struct,9,[.bool false,.int .i64 0,.int .i64 0,.int .i64 0,.slice none 0 0,.int .i64 0,.int .i64 0,.int .i64 0,.slice none 0 0],[(0,1,false),(1,4,true),(5,1,false),(6,3,true)],104⟩),
  (99,⟨.struct,9,[.bool false,.int .i64 0,.int .i64 0,.int .i64 0,.slice none 0 0,.int .i64 0,.int .i64 0,.int .i64 0,.slice none 0 0],[(0,1,false),(1,4,true),(5,1,false),(6,3,true)],104⟩),
  (100,⟨.struct,10,[.slice none 0 0,.bool false,.int .i64 0,.int .i64 0,.int .i64 0,.slice none 0 0,.int .i64 0,.int .i64 0,.int .i64 0,.slice none 0 0],[(0,1,false),(1,9,true)],128⟩),
  (101,⟨.struct,10,[.slice none 0 0,.bool false,.int .i64 0,.int .i64 0,.int .i64 0,.slice none 0 0,.int .i64 0,.int .i64 0,.int .i64 0,.slice none 0 0],[(0,1,false),(1,9,true)],128⟩),
  (102,⟨.struct,4,[.int .i64 0,.int .i64 0,.bool false,.bool false],[(0,1,false),(1,1,false),(2,1,false),(3,1,false)],24⟩),
  (103,⟨.slice 173,1,[.slice none 0 0],[],24⟩),
  (104,⟨.struct,4,[.int .i64 0,.int .i64 0,.int .i64 0,.slice none 0 0],[(0,1,false),(1,1,false),(2,1,false),(3,1,false)],48⟩),
  (105,⟨.struct,3,[.int .i64 0,.int .i64 0,.slice none 0 0],[(0,1,false),(1,1,false),(2,1,false)],40⟩),
  (106,⟨.struct,8,[.bool false,.int .i64 0,.int .i64 0,.int .i64 0,.slice none 0 0,.int .i64 0,.int .i64 0,.slice none 0 0],[(0,1,false),(1,4,true),(5,3,true)],96⟩),
  (107,⟨.struct,8,[.bool false,.int .i64 0,.int .i64 0,.int .i64 0,.slice none 0 0,.int .i64 0,.int .i64 0,.slice none 0 0],[(0,1,false),(1,4,true),(5,3,true)],96⟩),
  (108,⟨.struct,22,Am,[(0,1,false),(1,1,false),(2,1,false),(3,1,false),(4,1,false),(5,1,false),(6,8,true),(14,8,true)],288⟩),
  (109,⟨.struct,22,AO,[(0,1,false),(1,1,false),(2,1,false),(3,1,false),(4,1,false),(5,1,false),(6,8,true),(14,8,true)],288⟩),
  (110,⟨.struct,4,[.int .i64 0,.int .i64 0,.int .i64 0,.slice none 0 0],[(0,1,false),(1,1,false),(2,1,false),(3,1,false)],48⟩),
  (111,⟨.struct,3,[.int .i64 0,.int .i64 0,.slice none 0 0],[(0,1,false),(1,1,false),(2,1,false)],40⟩),
  (112,⟨.struct,8,[.bool false,.int .i64 0,.int .i64 0,.int .i64 0,.slice none 0 0,.int .i64 0,.int .i64 0,.slice none 0 0],[(0,1,false),(1,4,true),(5,3,true)],96⟩),
  (113,⟨.struct,8,[.bool false,.int .i64 0,.int .i64 0,.int .i64 0,.slice none 0 0,.int .i64 0,.int .i64 0,.slice none 0 0],[(0,1,false),(1,4,true),(5,3,true)],96⟩),
  (114,⟨.struct,21,AJ,[(0,1,false),(1,1,false),(2,1,false),(3,1,false),(4,1,false),(5,8,true),(13,8,true)],280⟩),
  (115,⟨.struct,21,AQ,[(0,1,false),(1,1,false),(2,1,false),(3,1,false),(4,1,false),(5,8,true),(13,8,true)],280⟩),
  (116,⟨.slice 176,1,[.slice none 0 0],[],24⟩),
  (117,⟨.struct,2,[.int .i64 0,.slice none 0 0],[(0,1,false),(1,1,false)],32⟩),
  (118,⟨.struct,2,[.int .i64 0,.slice none 0 0],[(0,1,false),(1,1,false)],32⟩),
  (119,⟨.slice 179,1,[.slice none 0 0],[],24⟩),
  (120,⟨.struct,6,[.bool false,.bool false,.bool false,.bool false,.bool false,.slice none 0 0],[(0,5,true),(5,1,false)],32⟩),
  (121,⟨.struct,6,[.bool false,.bool false,.bool false,.bool false,.bool false,.slice none 0 0],[(0,5,true),(5,1,false)],32⟩),
  (122,⟨.slice 170,1,[.slice none 0 0],[],24⟩),
  (123,⟨.struct,376,Ap,[(0,256,true),(256,11,true),(267,2,true),(269,2,true),(271,1,false),(272,1,false),(273,1,false),(274,1,true),(275,32,true),(307,1,false),(308,10,true),(318,4,true),(322,22,true),(344,21,true),(365,2,true),(367,6,true),(373,1,false),(374,1,false),(375,1,false)],3888⟩),
  (124,⟨.struct,376,AG,[(0,256,true),(256,11,true),(267,2,true),(269,2,true),(271,1,false),(272,1,false),(273,1,false),(274,1,true),(275,32,true),(307,1,false),(308,10,true),(318,4,true),(322,22,true),(344,21,true),(365,2,true),(367,6,true),(373,1,false),(374,1,false),(375,1,false)],3888⟩),
  (130,⟨.arr 2 5,2,[.int .u8 0,.int .u8 0],[],2⟩),
  (132,⟨.struct,4,[.int .i64 0,.int .i64 0,.int .i64 0,.bool false],[(0,1,false),(1,1,false),(2,1,false),(3,1,false)],32⟩),
  (133,⟨.struct,4,[.int .i64 0,.int .i64 0,.int .i64 0,.bool false],[(0,1,false),(1,1,false),(2,1,false),(3,1,false)],32⟩),
  (134,⟨.struct,3,[.int .i64 0,.int .i64 0,.bool false],[(0,1,false),(1,1,false),(2,1,false)],24⟩),
  (135,⟨.struct,3,[.int .i64 0,.int .i64 0,.bool false],[(0,1,false),(1,1,false),(2,1,false)],24⟩),
  (136,⟨.struct,3,[.int .i64 0,.int .i64 0,.bool false],[(0,1,false),(1,1,false),(2,1,false)],24⟩),
  (138,⟨.arr 3 3,3,[.int .i64 0,.int .i64 0,.int .i64 0],[],24⟩),
  (139,⟨.struct,8,[.int .i64 0,.int .i64 0,.int .i64 0,.int .i64 0,.int .i64 0,.int .i64 0,.int .i64 0,.slice none 0 0],[(0,1,false),(1,1,false),(2,1,false),(3,3,true),(6,1,false),(7,1,false)],80⟩),
  (140,⟨.struct,8,[.int .i64 0,.int .i64 0,.int .i64 0,.int .i64 0,.int .i64 0,.int .i64 0,.int .i64 0,.slice none 0 0],[(0,1,false),(1,1,false),(2,1,false),(3,3,true),(6,1,false),(7,1,false)],80⟩),
  (142,⟨.ptr 200,1,[.pointer none],[],8⟩),
  (152,⟨.struct,3,[.int .i64 0,.int .i64 0,.int .i64 0],[(0,1,false),(1,1,false),(2,1,false)],24⟩),
  (153,⟨.struct,3,[.int .i64 0,.int .i64 0,.int .i64 0],[(0,1,false),(1,1,false),(2,1,false)],24⟩),
  (154,⟨.struct,3,[.int .i64 0,.int .i64 0,.int .i64 0],[(0,1,false),(1,1,false),(2,1,false)],24⟩),
  (155,⟨.struct,3,[.int .i64 0,.int .i64 0,.int .i64 0],[(0,1,false),(1,1,false),(2,1,false)],24⟩),
  (156,⟨.struct,3,[.int .i64 0,.int .i64 0,.int .i64 0],[(0,1,false),(1,1,false),(2,1,false)],24⟩),
  (157,⟨.struct,6,[.int .i64 0,.int .i64 0,.int .i64 0,.int .i64 0,.int .i64 0,.int .i64 0],[(0,1,false),(1,1,false),(2,1,false),(3,3,true)],48⟩),
  (158,⟨.struct,6,[.int .i64 0,.int .i64 0,.int .i64 0,.int .i64 0,.int .i64 0,.int .i64 0],[(0,1,false),(1,1,false),(2,1,false),(3,3,true)],48⟩),
  (159,⟨.struct,3,[.int .i64 0,.int .i64 0,.int .i64 0],[(0,1,false),(1,1,false),(2,1,false)],24⟩),
  (160,⟨.struct,6,[.int .i64 0,.int .i64 0,.int .i64 0,.int .i64 0,.int .i64 0,.int .i64 0],[(0,1,false),(1,1,false),(2,1,false),(3,3,true)],48⟩),
  (161,⟨.struct,6,[.int .i64 0,.int .i64 0,.int .i64 0,.int .i64 0,.int .i64 0,.int .i64 0],[(0,1,false),(1,1,false),(2,1,false),(3,3,true)],48⟩),
  (162,⟨.struct,4,[.int .i64 0,.int .i64 0,.int .i64 0,.int .i64 0],[(0,1,false),(1,1,false),(2,1,false),(3,1,false)],32⟩),
  (163,⟨.struct,4,[.int .i64 0,.int .i64 0,.int .i64 0,.int .i64 0],[(0,1,false),(1,1,false),(2,1,false),(3,1,false)],32⟩),
  (164,⟨.struct,4,[.int .i64 0,.int .i64 0,.int .i64 0,.int .i64 0],[(0,1,false),(1,1,false),(2,1,false),(3,1,false)],32⟩),
  (165,⟨.struct,3,[.int .i64 0,.int .i64 0,.int .i64 0],[(0,1,false),(1,1,false),(2,1,false)],24⟩),
  (166,⟨.struct,3,[.int .i64 0,.int .i64 0,.int .i64 0],[(0,1,false),(1,1,false),(2,1,false)],24⟩),
  (167,⟨.struct,3,[.int .i64 0,.int .i64 0,.int .i64 0],[(0,1,false),(1,1,false),(2,1,false)],24⟩),
  (168,⟨.struct,4,[.int .i64 0,.int .i64 0,.int .i64 0,.bool false],[(0,1,false),(1,1,false),(2,1,false),(3,1,false)],32⟩),
  (169,⟨.struct,3,[.int .i64 0,.int .i64 0,.int .i64 0],[(0,1,false),(1,1,false),(2,1,false)],24⟩),
  (170,⟨.struct,3,[.int .i64 0,.int .i64 0,.int .i64 0],[(0,1,false),(1,1,false),(2,1,false)],24⟩),
  (171,⟨.struct,3,[.int .i64 0,.int .i64 0,.int .i64 0],[(0,1,false),(1,1,false),(2,1,false)],24⟩),
  (172,⟨.struct,2,[.int .i64 0,.slice none 0 0],[(0,1,false),(1,1,false)],32⟩),
  (173,⟨.struct,2,[.int .i64 0,.slice none 0 0],[(0,1,false),(1,1,false)],32⟩),
  (174,⟨.struct,2,[.int .i64 0,.slice none 0 0],[(0,1,false),(1,1,false)],32⟩),
  (175,⟨.struct,2,[.int .i64 0,.int .i64 0],[(0,1,false),(1,1,false)],16⟩),
  (176,⟨.struct,2,[.int .i64 0,.int .i64 0],[(0,1,false),(1,1,false)],16⟩),
  (177,⟨.struct,2,[.int .i64 0,.int .i64 0],[(0,1,false),(1,1,false)],16⟩),
  (178,⟨.struct,4,[.int .i64 0,.int .i64 0,.int .i64 0,.slice none 0 0],[(0,1,false),(1,1,false),(2,1,false),(3,1,false)],48⟩),
  (179,⟨.struct,4,[.int .i64 0,.int .i64 0,.int .i64 0,.slice none 0 0],[(0,1,false),(1,1,false),(2,1,false),(3,1,false)],48⟩),
  (180,⟨.struct,4,[.int .i64 0,.int .i64 0,.int .i64 0,.slice none 0 0],[(0,1,false),(1,1,false),(2,1,false),(3,1,false)],48⟩),
  (182,⟨.other,1,[.nilFunc],[],8⟩),
  (183,⟨.struct,2,[.string ⟨#[]⟩,.nilFunc],[(0,1,false),(1,1,false)],24⟩),
  (184,⟨.struct,2,[.string ⟨#[]⟩,.nilFunc],[(0,1,false),(1,1,false)],24⟩),
  (185,⟨.slice 184,1,[.slice none 0 0],[],24⟩),
  (187,⟨.struct,376,Bm,[(0,376,true)],3888⟩),
  (188,⟨.struct,376,A6,[(0,376,true)],3888⟩),
  (189,⟨.int .i64,1,[.int .i64 0],[],8⟩),
  (196,⟨.ptr 124,1,[.pointer none],[],8⟩),
  (199,⟨.struct,1,[.pointer none],[(0,1,false)],8⟩),
  (200,⟨.struct,1,[.pointer none],[(0,1,false)],8⟩),
  (204,⟨.arr 4 3,4,[.int .i64 0,.int .i64 0,.int .i64 0,.int .i64 0],[],32⟩),
  (205,⟨.struct,9,[.int .i64 0,.int .i64 0,.int .i64 0,.int .i64 0,.int .i64 0,.int .i64 0,.int .i64 0,.int .i64 0,.slice none 0 0],[(0,1,false),(1,1,false),(2,1,false),(3,1,false),(4,4,true),(8,1,false)],88⟩),
  (206,⟨.struct,9,[.int .i64 0,.int .i64 0,.int .i64 0,.int .i64 0,.int .i64 0,.int .i64 0,.int .i64 0,.int .i64 0,.slice none 0 0],[(0,1,false),(1,1,false),(2,1,false),(3,1,false),(4,4,true),(8,1,false)],88⟩),
  (214,⟨.ptr 22,1,[.pointer none],[],8⟩),
  (215,⟨.slice 214,1,[.slice none 0 0],[],24⟩),
  (221,⟨.struct,6,[.int .i64 0,.int .i64 0,.int .i64 0,.int .i64 0,.int .i64 0,.bool false],[(0,1,false),(1,1,false),(2,1,false),(3,1,false),(4,1,false),(5,1,false)],48⟩),
  (222,⟨.struct,6,[.int .i64 0,.int .i64 0,.int .i64 0,.int .i64 0,.int .i64 0,.bool false],[(0,1,false),(1,1,false),(2,1,false),(3,1,false),(4,1,false),(5,1,false)],48⟩),
  (226,⟨.slice 229,1,[.slice none 0 0],[],24⟩),
  (228,⟨.struct,4,[.int .i64 0,.int .i64 0,.int .i64 0,.slice none 0 0],[(0,3,true),(3,1,false)],48⟩),
  (229,⟨.struct,4,[.int .i64 0,.int .i64 0,.int .i64 0,.slice none 0 0],[(0,3,true),(3,1,false)],48⟩),
  (244,⟨.struct,4,[.bool false,.bool false,.bool false,.int .i64 0],[(0,1,false),(1,1,false),(2,1,false),(3,1,false)],16⟩),
  (245,⟨.struct,4,[.bool false,.bool false,.bool false,.int .i64 0],[(0,1,false),(1,1,false),(2,1,false),(3,1,false)],16⟩),
  (246,⟨.arr 32 245,128,Bb,[],512⟩),
  (273,⟨.slice 4,1,[.slice none 0 0],[],24⟩),
  (274,⟨.struct,4,[.bool false,.bool false,.bool false,.int .i64 0],[(0,1,false),(1,1,false),(2,1,false),(3,1,false)],16⟩),
  (275,⟨.struct,4,[.bool false,.bool false,.bool false,.int .i64 0],[(0,1,false),(1,1,false),(2,1,false),(3,1,false)],16⟩),
  (276,⟨.arr 32 275,128,Ac,[],512⟩),
  (286,⟨.slice 229,1,[.slice none 0 0],[],24⟩),
  (290,⟨.ptr 84,1,[.pointer none],[],8⟩),
  (320,⟨.map 153 3,1,[.map none],[],8⟩),
  (322,⟨.map 3 159,1,[.map none],[],8⟩),
  (323,⟨.map 325 4,1,[.map none],[],8⟩),
  (324,⟨.struct,4,[.int .i64 0,.int .i64 0,.int .i64 0,.int .i64 0],[(0,1,false),(1,3,true)],32⟩),
  (325,⟨.struct,4,[.int .i64 0,.int .i64 0,.int .i64 0,.int .i64 0],[(0,1,false),(1,3,true)],32⟩),
  (338,⟨.struct,4,[.int .i64 0,.int .i64 0,.string ⟨#[]⟩,.int .i64 0],[(0,1,false),(1,1,false),(2,1,false),(3,1,false)],40⟩),
  (339,⟨.struct,4,[.int .i64 0,.int .i64 0,.string ⟨#[]⟩,.int .i64 0],[(0,1,false),(1,1,false),(2,1,false),(3,1,false)],40⟩),
  (340,⟨.arr 28 339,112,An,[],1120⟩),
  (342,⟨.ptr 275,1,[.pointer none],[],8⟩),
  (346,⟨.ptr 286,1,[.pointer none],[],8⟩),
  (360,⟨.int .u64,1,[.int .u64 0],[],8⟩),
  (365,⟨.int .i64,1,[.int .i64 0],[],8⟩),
  (372,⟨.int .u32,1,[.int .u32 0],[],4⟩),
  (374,⟨.int .u64,1,[.int .u64 0],[],8⟩),
  (376,⟨.arr 5 3,5,[.int .i64 0,.int .i64 0,.int .i64 0,.int .i64 0,.int .i64 0],[],40⟩),
  (377,⟨.int .u64,1,[.int .u64 0],[],8⟩),
  (381,⟨.ptr 3,1,[.pointer none],[],8⟩),
  (383,⟨.ptr 377,1,[.pointer none],[],8⟩),
  (396,⟨.ptr 5,1,[.pointer none],[],8⟩)]
set_option maxHeartbeats 4000000 in
set_option maxRecDepth 100000 in
theorem ae:bB Tryz.prog aY:=uA (by kernel_rfl)
theorem mixed:Tryz.prog.follows .mixedOrders=true:=by kernel_rfl
set_option maxRecDepth 100000
set_option maxHeartbeats 4000000
set_option linter.unusedVariables false
set_option linter.unusedSimpArgs false
theorem qz (p f:Int) (w:Bool):af Tryz.prog 171 [.agg ⟨[.int .i64 p,.int .i64 f,.bool w]⟩] (fun _=>True) (fun v F=>v = .bool (decide (0≤p∧p<32∧0≤f∧f<96))):=by
 refine af.aG ae Tryz.func171 rfl (by decide) (n:=Tryz.f171.ntmps - 1) rfl rfl fun w0 av=>?_
 conv=>whnf
 repeat (refine aa.of ?_;conv=>whnf)
 intro b1
 conv=>whnf
 repeat (refine aa.of ?_;conv=>whnf)
 exact⟨_,ax.refl _,by congr 1;rw[Bool.eq_iff_iff];simp[aD,ao,aC,aB,aA,aE,and_assoc]⟩
theorem pE (a:Int):af Tryz.prog 244 [.int .i64 a] (fun _=>True) (fun v F=>v = .bool false):=by
 refine af.aG ae Tryz.func244 rfl (by decide) (n:=Tryz.f244.ntmps - 1) rfl rfl fun w0 av=>?_
 conv=>whnf
 repeat (refine aa.of ?_;conv=>whnf)
 exact⟨_,ax.refl _,by simp[aE]⟩
def ku (a b:Int):Int:=if a<b then -1 else if b<a then 1 else 0
theorem ft (a b:Int):af Tryz.prog 227 [.int .i64 a,.int .i64 b] (fun _=>True) (fun v F=>v = .int .i64 (ku a b)):=by
 have h1:=pE a
 have h2:=pE b
 obtain⟨z,hz⟩ : ∃ z,z=false:=⟨_,rfl⟩
 rw[← hz] at h1 h2
 refine af.aG ae Tryz.func227 rfl (by decide) (n:=Tryz.f227.ntmps - 2) rfl rfl fun w0 av=>?_
 conv=>whnf
 repeat (refine aa.of ?_;conv=>whnf)
 refine aw.val h1 (fun w hw=>trivial) (fun v D hv=>?_)
 subst hv
 conv=>whnf
 repeat (refine aa.of ?_;conv=>whnf)
 refine aw.val h2 (fun w hw=>trivial) (fun v D hv=>?_)
 subst hv
 conv=>whnf
 repeat (refine aa.of ?_;conv=>whnf)
 refine bF.no hz ?_
 conv=>whnf
 repeat (refine aa.of ?_;conv=>whnf)
 refine bF.no hz ?_
 conv=>whnf
 repeat (refine aa.of ?_;conv=>whnf)
 refine bF.split (fun h=>?_) (fun h=>?_)
 · conv=>whnf
   repeat (refine aa.of ?_;conv=>whnf)
   refine⟨_,ax.refl _,?_⟩
   rw[ao,decide_eq_true_eq] at h
   unfold ku
   rw[if_pos h]
 rw[ao,decide_eq_false_iff_not] at h
 conv=>whnf
 repeat (refine aa.of ?_;conv=>whnf)
 refine bF.split (fun k=>?_) (fun k=>?_)
 · conv=>whnf
   repeat (refine aa.of ?_;conv=>whnf)
   refine⟨_,ax.refl _,?_⟩
   rw[aB,decide_eq_true_eq] at k
   unfold ku
   rw[if_neg h,if_pos k]
 · rw[aB,decide_eq_false_iff_not] at k
   conv=>whnf
   repeat (refine aa.of ?_;conv=>whnf)
   refine⟨_,ax.refl _,?_⟩
   unfold ku
   rw[if_neg h,if_neg k]
def DF (x y:Int):Int:=if x≠0 then x else y
theorem nJ (x y:Int) (b c:Nat) (hc:2≤c):af Tryz.prog 226 [.slice (some ⟨b,0,none⟩) 2 c] (fun w=>ai w (some ⟨b,0,none⟩) [.int .i64 x,.int .i64 y]) (fun v F=>v = .int .i64 (DF x y)):=by
 obtain⟨o,ho⟩ : ∃ o:Nat,o=2:=⟨_,rfl⟩
 rw[← ho]
 refine af.aG ae Tryz.func226 rfl (by decide) (n:=Tryz.f226.ntmps - 1) rfl rfl fun w0 av=>?_
 conv=>whnf
 repeat (refine aa.of ?_;conv=>whnf)
 refine az.loop ae (ι:=Nat) ([5]++List.range' 8 9) (fun j=>j≤2∧(1≤j→x=0)∧(2≤j→y=0)) (fun j=>[(8,.v (.int .i64 (j:Int)))])
  (fun _=>[]) (fun _=>⟨fun w=>ai w (some ⟨b,0,none⟩) [.int .i64 x,.int .i64 y],[]⟩) (fun j=>2 - j) 0 (by omega) ?_ rfl (ax.refl _) fun i hi=>?_
 · conv=>whnf
   repeat (first | exact au.nil | refine au.any ?_ | refine au.cons ?_)
 obtain⟨hi,hx,hy⟩:=hi
 conv=>whnf
 repeat (refine aa.of ?_;conv=>whnf)
 refine bF.split (fun hlt=>?_) (fun hlt=>?_)
 · have hlt':i<2:=by
    simp[ao] at hlt
    omega
   have hcell:([.int .i64 x,.int .i64 y]:List Value)[i]? = some (.int .i64 (if i=0 then x else y)):=by
    rcases i with _ | _ | i
    · rfl
    · rfl
    · omega
   conv=>whnf
   repeat (refine aa.of ?_;conv=>whnf)
   refine ar.aj (ak.index ae (t:=38) rfl rfl rfl (by omega) (by omega) (fun h=>by cases h) fun ad had=>?_)
   conv=>whnf
   repeat (refine aa.of ?_;conv=>whnf)
   refine ar.aj (ak.aH ae (t:=3) rfl rfl (ad:=ad) (k:=i) (L:=[.int .i64 x,.int .i64 y]) (v:=.int .i64 (if i=0 then x else y)) (.fact fun w hw=>had ▸ hw) (fun hs=>by rw[Nat.mul_one];rfl) hcell ?_)
   conv=>whnf
   repeat (refine aa.of ?_;conv=>whnf)
   refine bF.split (fun hq=>?_) (fun hq=>?_)
   · simp only[aE,bne_iff_ne] at hq
     conv=>whnf
     repeat (refine aa.of ?_;conv=>whnf)
     refine⟨_,ax.refl _,?_⟩
     congr 1
     unfold DF
     by_cases h0:i=0
     · rw[if_pos h0] at hq ⊢
       rw[if_pos hq]
     · rw[if_neg h0] at hq ⊢
       rw[if_neg (by rw[hx (by omega)];simp)]
   · simp only[aE,bne_eq_false_iff_eq] at hq
     conv=>whnf
     repeat (refine aa.of ?_;conv=>whnf)
     refine⟨i+1,⟨⟨hlt',fun _=>?_,fun _=>?_⟩,by dsimp only;omega⟩,?_,?_,ax.refl _⟩
     · by_cases h0:i=0
       · rw[if_pos h0] at hq
         omega
       · exact hx (by omega)
     · rw[if_neg (by omega)] at hq
       omega
     · conv=>whnf
       refine⟨?_,rfl⟩
       repeat (first | exact au.nil | refine au.any ?_ | refine au.cons ?_ | refine au.eq (by rw[wrap_i64 (by omega)];rfl) ?_)
     · conv=>whnf
       exact trivial
 · have h2:2≤i:=by
    simp[ao] at hlt
    omega
   conv=>whnf
   repeat (refine aa.of ?_;conv=>whnf)
   refine⟨_,ax.refl _,?_⟩
   unfold DF
   rw[hx (by omega),hy h2]
   rfl
def dN (a b c d:Int):Int:=DF (ku a b) (ku c d)
theorem qN (a1 b1 c1 a2 b2 c2:Int):af Tryz.prog 196 [.agg ⟨[.int .i64 a1,.int .i64 b1,.int .i64 c1]⟩,.agg ⟨[.int .i64 a2,.int .i64 b2,.int .i64 c2]⟩] (fun _=>True) (fun v F=>v = .int .i64 (dN a1 a2 b1 b2)):=by
 have h1:=ft a1 a2
 have h2:=ft b1 b2
 unfold dN
 generalize ku a1 a2=x at *
 generalize ku b1 b2=y at *
 refine af.aG ae Tryz.func196 rfl (by decide) (n:=Tryz.f196.ntmps - 2) rfl rfl fun w0 av=>?_
 conv=>whnf
 repeat (refine aa.of ?_;conv=>whnf)
 intro b3
 conv=>whnf
 repeat (refine aa.of ?_;conv=>whnf)
 intro b4
 conv=>whnf
 repeat (refine aa.of ?_;conv=>whnf)
 refine az.draw ae mixed rfl rfl ?_
 conv=>whnf
 repeat' (first
  | (refine dv.of ?_;conv=>whnf)
  | (refine aw.val h1 (fun w hw=>trivial) (fun v D hv=>?_);subst hv;conv=>whnf)
  | (refine aw.val h2 (fun w hw=>trivial) (fun v D hv=>?_);subst hv;conv=>whnf)
  | (refine ar.build ae (t:=38) rfl rfl rfl [.int .i64 x,.int .i64 y] rfl rfl (by simp[Value.cells]) (by decide) fun b5=>?_;conv=>whnf)
  | (refine aw.bZ (F':=⟨fun w=>ai w (some ⟨b5,0,none⟩) [.int .i64 x,.int .i64 y],[]⟩) (ax.trans (G:=⟨fun w=>True,[] ++ [(b5,Row.c [.int .i64 x,.int .i64 y])]⟩) (ax.of_le ⟨by simp[Value.cells],fun w hw=>trivial⟩) (ax.trans ax.share1 (ax.imp fun w hw=>hw.2))) ?_;refine aw.val (nJ x y b5 _ (Nat.le_refl _)) (fun w hw=>hw) (fun v D hv=>?_);subst hv;conv=>whnf))
 all_goals exact⟨_,ax.refl _,rfl⟩
theorem qi (a1 b1 c1 a2 b2 c2:Int) (d1 d2:Bool):af Tryz.prog 175 [.agg ⟨[.int .i64 a1,.int .i64 b1,.int .i64 c1,.bool d1]⟩,.agg ⟨[.int .i64 a2,.int .i64 b2,.int .i64 c2,.bool d2]⟩] (fun _=>True) (fun v F=>v = .int .i64 (dN a1 a2 b1 b2)):=by
 have h1:=ft a1 a2
 have h2:=ft b1 b2
 unfold dN
 generalize ku a1 a2=x at *
 generalize ku b1 b2=y at *
 refine af.aG ae Tryz.func175 rfl (by decide) (n:=Tryz.f175.ntmps - 2) rfl rfl fun w0 av=>?_
 conv=>whnf
 repeat (refine aa.of ?_;conv=>whnf)
 intro b3
 conv=>whnf
 repeat (refine aa.of ?_;conv=>whnf)
 intro b4
 conv=>whnf
 repeat (refine aa.of ?_;conv=>whnf)
 refine az.draw ae mixed rfl rfl ?_
 conv=>whnf
 repeat' (first
  | (refine dv.of ?_;conv=>whnf)
  | (refine aw.val h1 (fun w hw=>trivial) (fun v D hv=>?_);subst hv;conv=>whnf)
  | (refine aw.val h2 (fun w hw=>trivial) (fun v D hv=>?_);subst hv;conv=>whnf)
  | (refine ar.build ae (t:=38) rfl rfl rfl [.int .i64 x,.int .i64 y] rfl rfl (by simp[Value.cells]) (by decide) fun b5=>?_;conv=>whnf)
  | (refine aw.bZ (F':=⟨fun w=>ai w (some ⟨b5,0,none⟩) [.int .i64 x,.int .i64 y],[]⟩) (ax.trans (G:=⟨fun w=>True,[] ++ [(b5,Row.c [.int .i64 x,.int .i64 y])]⟩) (ax.of_le ⟨by simp[Value.cells],fun w hw=>trivial⟩) (ax.trans ax.share1 (ax.imp fun w hw=>hw.2))) ?_;refine aw.val (nJ x y b5 _ (Nat.le_refl _)) (fun w hw=>hw) (fun v D hv=>?_);subst hv;conv=>whnf))
 all_goals exact⟨_,ax.refl _,rfl⟩
theorem qp (a1 b1 c1 d1 a2 b2 c2 d2:Int):af Tryz.prog 193 [.agg ⟨[.int .i64 a1,.int .i64 b1,.int .i64 c1,.int .i64 d1]⟩,.agg ⟨[.int .i64 a2,.int .i64 b2,.int .i64 c2,.int .i64 d2]⟩] (fun _=>True) (fun v F=>v = .int .i64 (dN c1 c2 b1 b2)):=by
 have h1:=ft c1 c2
 have h2:=ft b1 b2
 unfold dN
 generalize ku c1 c2=x at *
 generalize ku b1 b2=y at *
 refine af.aG ae Tryz.func193 rfl (by decide) (n:=Tryz.f193.ntmps - 2) rfl rfl fun w0 av=>?_
 conv=>whnf
 repeat (refine aa.of ?_;conv=>whnf)
 intro b3
 conv=>whnf
 repeat (refine aa.of ?_;conv=>whnf)
 intro b4
 conv=>whnf
 repeat (refine aa.of ?_;conv=>whnf)
 refine az.draw ae mixed rfl rfl ?_
 conv=>whnf
 repeat' (first
  | (refine dv.of ?_;conv=>whnf)
  | (refine aw.val h1 (fun w hw=>trivial) (fun v D hv=>?_);subst hv;conv=>whnf)
  | (refine aw.val h2 (fun w hw=>trivial) (fun v D hv=>?_);subst hv;conv=>whnf)
  | (refine ar.build ae (t:=38) rfl rfl rfl [.int .i64 x,.int .i64 y] rfl rfl (by simp[Value.cells]) (by decide) fun b5=>?_;conv=>whnf)
  | (refine aw.bZ (F':=⟨fun w=>ai w (some ⟨b5,0,none⟩) [.int .i64 x,.int .i64 y],[]⟩) (ax.trans (G:=⟨fun w=>True,[] ++ [(b5,Row.c [.int .i64 x,.int .i64 y])]⟩) (ax.of_le ⟨by simp[Value.cells],fun w hw=>trivial⟩) (ax.trans ax.share1 (ax.imp fun w hw=>hw.2))) ?_;refine aw.val (nJ x y b5 _ (Nat.le_refl _)) (fun w hw=>hw) (fun v D hv=>?_);subst hv;conv=>whnf))
 all_goals exact⟨_,ax.refl _,rfl⟩
theorem pY (a1 b1 c1 a2 b2 c2:Int):af Tryz.prog 188 [.agg ⟨[.int .i64 a1,.int .i64 b1,.int .i64 c1]⟩,.agg ⟨[.int .i64 a2,.int .i64 b2,.int .i64 c2]⟩] (fun _=>True) (fun v F=>v = .int .i64 (dN a1 a2 b1 b2)):=by
 have h1:=ft a1 a2
 have h2:=ft b1 b2
 unfold dN
 generalize ku a1 a2=x at *
 generalize ku b1 b2=y at *
 refine af.aG ae Tryz.func188 rfl (by decide) (n:=Tryz.f188.ntmps - 2) rfl rfl fun w0 av=>?_
 conv=>whnf
 repeat (refine aa.of ?_;conv=>whnf)
 intro b3
 conv=>whnf
 repeat (refine aa.of ?_;conv=>whnf)
 intro b4
 conv=>whnf
 repeat (refine aa.of ?_;conv=>whnf)
 refine az.draw ae mixed rfl rfl ?_
 conv=>whnf
 repeat' (first
  | (refine dv.of ?_;conv=>whnf)
  | (refine aw.val h1 (fun w hw=>trivial) (fun v D hv=>?_);subst hv;conv=>whnf)
  | (refine aw.val h2 (fun w hw=>trivial) (fun v D hv=>?_);subst hv;conv=>whnf)
  | (refine ar.build ae (t:=38) rfl rfl rfl [.int .i64 x,.int .i64 y] rfl rfl (by simp[Value.cells]) (by decide) fun b5=>?_;conv=>whnf)
  | (refine aw.bZ (F':=⟨fun w=>ai w (some ⟨b5,0,none⟩) [.int .i64 x,.int .i64 y],[]⟩) (ax.trans (G:=⟨fun w=>True,[] ++ [(b5,Row.c [.int .i64 x,.int .i64 y])]⟩) (ax.of_le ⟨by simp[Value.cells],fun w hw=>trivial⟩) (ax.trans ax.share1 (ax.imp fun w hw=>hw.2))) ?_;refine aw.val (nJ x y b5 _ (Nat.le_refl _)) (fun w hw=>hw) (fun v D hv=>?_);subst hv;conv=>whnf))
 all_goals exact⟨_,ax.refl _,rfl⟩
def ek:Option Nat→Int
 | some i=>i
 | none=>-1
theorem dT {α:Type} (l:List α) (p:α→Bool):decide (ek (l.findIdx? p)≥0)=l.any p:=by
 cases h:l.findIdx? p with
 | none=>
  rw[List.findIdx?_eq_none_iff] at h
  have:l.any p=false:=by
   rw[List.any_eq_false]
   intro x hx
   have:=h x hx
   simp[this]
  rw[this]
  rfl
 | some i=>
  rw[List.findIdx?_eq_some_iff_getElem] at h
  obtain⟨h1,h2,-⟩:=h
  have:l.any p=true:=List.any_eq_true.2 ⟨_,List.getElem_mem h1,h2⟩
  rw[this]
  show decide ((i:Int)≥0)=true
  simp
theorem AR {α:Type} (vf:α→Value) (hone : ∀ x,a7 (vf x)=true) (f:FuncId) (Pre:World→Prop) (p:α→Bool) (l:List α) (h:Hd) (hh:h.Ok l.length) (hl:l.length≤140737488355328) (hf : ∀ e∈l,af Tryz.prog f [(vf e)] Pre (fun v F=>v = .bool (p e))) :
 af Tryz.prog 225 [h.v l.length,.func (.func f) #[] #[]] (fun w=>ai w h.a (l.map vf)∧Pre w) (fun v F=>v = .int .i64 (ek (l.findIdx? p))):=by
 refine af.aG ae Tryz.func225 rfl (by decide) (n:=Tryz.f225.ntmps - 2) rfl rfl fun w0 av=>?_
 conv=>whnf
 refine az.loop ae (ι:=Nat) ([5]++List.range' 8 11) (fun x=>x≤l.length∧∀ j (hj:j<l.length),j<x→p l[j]=false)
  (fun x=>[(8,.v (.int .i64 (x:Int)))]) (fun _=>[]) (fun _=>⟨fun w=>ai w h.a (l.map vf)∧Pre w,[]⟩)
  (fun x=>l.length - x) 0 ⟨Nat.zero_le _,fun j hj h=>by omega⟩ ?_ rfl (ax.refl _) fun i hi=>?_
 · conv=>whnf
   repeat (first | exact au.nil | refine au.any ?_ | refine au.cons ?_)
 obtain⟨hi,hall⟩:=hi
 conv=>whnf
 refine bF.split (fun hlt=>?_) (fun hlt=>?_)
 · have hlt':i<l.length:=by
    simp only[ao,decide_eq_true_eq] at hlt
    omega
   conv=>whnf
   repeat (refine aa.of ?_;conv=>whnf)
   refine ar.aj (ak.index ae (t:=40) rfl rfl rfl (by omega) (by omega) hh.nil fun ad had=>?_)
   conv=>whnf
   repeat (refine aa.of ?_;conv=>whnf)
   refine ar.aj (ak.aH ae (t:=22) rfl rfl (ad:=ad) (k:=i) (L:=l.map vf) (v:=vf l[i]) (.fact fun w hw=>had ▸ hw.1) (fun hs=>by rw[Nat.mul_one];rfl) (by rw[List.getElem?_map,List.getElem?_eq_getElem hlt'];rfl) ?_)
   conv=>whnf
   repeat (refine aa.of ?_;conv=>whnf)
   refine aw.val (hf _ (List.getElem_mem hlt')) (fun w hw=>hw.2) (fun v D hv=>?_)
   generalize hq:p l[i]=q at hv
   subst hv
   cases q
   · conv=>whnf
     repeat (refine aa.of ?_;conv=>whnf)
     refine⟨i+1,⟨⟨hlt',fun j hj h=>?_⟩,by dsimp only;omega⟩,?_,?_,ax.refl _⟩
     · rcases Nat.lt_or_eq_of_le (Nat.lt_succ_iff.1 h) with h5 | h5
       · exact hall j hj h5
       · subst h5
         exact hq
     · conv=>whnf
       refine⟨?_,rfl⟩
       repeat (first | exact au.nil | refine au.any ?_ | refine au.cons ?_ | refine au.eq (by rw[wrap_i64 (by omega)];rfl) ?_)
     · conv=>whnf
       exact trivial
   · conv=>whnf
     repeat (refine aa.of ?_;conv=>whnf)
     refine⟨_,ax.refl _,?_⟩
     have:l.findIdx? p=some i:=by
      rw[List.findIdx?_eq_some_iff_getElem]
      exact⟨hlt',hq,fun j hj=>by simpa using hall j (by omega) hj⟩
     rw[this]
     rfl
 · have hie:i=l.length:=by
    simp only[ao,decide_eq_false_iff_not] at hlt
    omega
   subst hie
   conv=>whnf
   repeat (refine aa.of ?_;conv=>whnf)
   refine⟨_,ax.refl _,?_⟩
   have:l.findIdx? p=none:=by
    rw[List.findIdx?_eq_none_iff]
    intro x hx
    obtain⟨j,hj,rfl⟩:=List.getElem_of_mem hx
    simpa using hall j hj hj
   rw[this]
   rfl
theorem sL {α:Type} (vf:α→Value) (hone : ∀ x,a7 (vf x)=true) (f:FuncId) (Pre:World→Prop) (p:α→Bool) (l:List α) (h:Hd) (hh:h.Ok l.length) (hl:l.length≤140737488355328) (hf : ∀ e∈l,af Tryz.prog f [(vf e)] Pre (fun v F=>v = .bool (p e))) :
 af Tryz.prog 172 [h.v l.length,.func (.func f) #[] #[]] (fun w=>ai w h.a (l.map vf)∧Pre w) (fun v F=>v = .bool (l.any p)):=by
 have hi:=AR vf hone f Pre p l h hh hl hf
 have hv:=dT l p
 generalize ek (l.findIdx? p)=j at *
 refine af.aG ae Tryz.func172 rfl (by decide) (n:=Tryz.f172.ntmps - 2) rfl rfl fun w0 av=>?_
 conv=>whnf
 repeat (refine aa.of ?_;conv=>whnf)
 refine aw.val hi (fun w hw=>hw) (fun v D hv=>?_)
 subst hv
 conv=>whnf
 repeat (refine aa.of ?_;conv=>whnf)
 exact⟨_,ax.refl _,by rw[← hv,aD]⟩
theorem Br {α:Type} (cf:α→List Value) (hz : ∀ x,(cf x).length=6) (f:FuncId) (Pre:World→Prop) (p:α→Bool) (u0 u1:Value) (l:List α) (h:Hd) (hh:h.Ok l.length) (hl:l.length≤140737488355328) (hf : ∀ e∈l,af Tryz.prog f [.agg ⟨cf e⟩,u0,u1] Pre (fun v F=>v = .bool (p e))) :
 af Tryz.prog 198 [h.v l.length,.func (.func f) #[] #[u0,u1]] (fun w=>ai w h.a (l.flatMap cf)∧Pre w) (fun v F=>v = .int .i64 (ek (l.findIdx? p))):=by
 refine af.aG ae Tryz.func198 rfl (by decide) (n:=Tryz.f198.ntmps - 2) rfl rfl fun w0 av=>?_
 conv=>whnf
 refine az.loop ae (ι:=Nat) ([5]++List.range' 8 11) (fun x=>x≤l.length∧∀ j (hj:j<l.length),j<x→p l[j]=false)
  (fun x=>[(8,.v (.int .i64 (x:Int)))]) (fun _=>[]) (fun _=>⟨fun w=>ai w h.a (l.flatMap cf)∧Pre w,[]⟩)
  (fun x=>l.length - x) 0 ⟨Nat.zero_le _,fun j hj h=>by omega⟩ ?_ rfl (ax.refl _) fun i hi=>?_
 · conv=>whnf
   repeat (first | exact au.nil | refine au.any ?_ | refine au.cons ?_)
 obtain⟨hi,hall⟩:=hi
 conv=>whnf
 refine bF.split (fun hlt=>?_) (fun hlt=>?_)
 · have hlt':i<l.length:=by
    simp only[ao,decide_eq_true_eq] at hlt
    omega
   conv=>whnf
   repeat (refine aa.of ?_;conv=>whnf)
   refine ar.aj (ak.index ae (t:=82) rfl rfl rfl (by omega) (by omega) hh.nil fun ad had=>?_)
   conv=>whnf
   repeat (refine aa.of ?_;conv=>whnf)
   refine ar.aj (ak.aQ ae (t:=161) rfl rfl (ad:=ad) (k:=i*6) (L:=l.flatMap cf) (m:=cf l[i]) (.fact fun w hw=>had ▸ hw.1) (by simp) (a8 hz hlt') (hz _) ?_)
   conv=>whnf
   repeat (refine aa.of ?_;conv=>whnf)
   refine aw.val (hf _ (List.getElem_mem hlt')) (fun w hw=>hw.2) (fun v D hv=>?_)
   generalize hq:p l[i]=q at hv
   subst hv
   cases q
   · conv=>whnf
     repeat (refine aa.of ?_;conv=>whnf)
     refine⟨i+1,⟨⟨hlt',fun j hj h=>?_⟩,by dsimp only;omega⟩,?_,?_,ax.refl _⟩
     · rcases Nat.lt_or_eq_of_le (Nat.lt_succ_iff.1 h) with h5 | h5
       · exact hall j hj h5
       · subst h5
         exact hq
     · conv=>whnf
       refine⟨?_,rfl⟩
       repeat (first | exact au.nil | refine au.any ?_ | refine au.cons ?_ | refine au.eq (by rw[wrap_i64 (by omega)];rfl) ?_)
     · conv=>whnf
       exact trivial
   · conv=>whnf
     repeat (refine aa.of ?_;conv=>whnf)
     refine⟨_,ax.refl _,?_⟩
     have:l.findIdx? p=some i:=by
      rw[List.findIdx?_eq_some_iff_getElem]
      exact⟨hlt',hq,fun j hj=>by simpa using hall j (by omega) hj⟩
     rw[this]
     rfl
 · have hie:i=l.length:=by
    simp only[ao,decide_eq_false_iff_not] at hlt
    omega
   subst hie
   conv=>whnf
   repeat (refine aa.of ?_;conv=>whnf)
   refine⟨_,ax.refl _,?_⟩
   have:l.findIdx? p=none:=by
    rw[List.findIdx?_eq_none_iff]
    intro x hx
    obtain⟨j,hj,rfl⟩:=List.getElem_of_mem hx
    simpa using hall j hj hj
   rw[this]
   rfl
theorem wJ {α:Type} (cf:α→List Value) (hz : ∀ x,(cf x).length=6) (f:FuncId) (Pre:World→Prop) (p:α→Bool) (u0 u1:Value) (l:List α) (h:Hd) (hh:h.Ok l.length) (hl:l.length≤140737488355328) (hf : ∀ e∈l,af Tryz.prog f [.agg ⟨cf e⟩,u0,u1] Pre (fun v F=>v = .bool (p e))) :
 af Tryz.prog 121 [h.v l.length,.func (.func f) #[] #[u0,u1]] (fun w=>ai w h.a (l.flatMap cf)∧Pre w) (fun v F=>v = .bool (l.any p)):=by
 have hi:=Br cf hz f Pre p u0 u1 l h hh hl hf
 have hv:=dT l p
 generalize ek (l.findIdx? p)=j at *
 refine af.aG ae Tryz.func121 rfl (by decide) (n:=Tryz.f121.ntmps - 2) rfl rfl fun w0 av=>?_
 conv=>whnf
 repeat (refine aa.of ?_;conv=>whnf)
 refine aw.val hi (fun w hw=>hw) (fun v D hv=>?_)
 subst hv
 conv=>whnf
 repeat (refine aa.of ?_;conv=>whnf)
 exact⟨_,ax.refl _,by rw[← hv,aD]⟩
theorem yP {α:Type} (cf:α→List Value) (hz : ∀ x,(cf x).length=6) (f:FuncId) (Pre:World→Prop) (p:α→Bool) (u0:Value) (l:List α) (h:Hd) (hh:h.Ok l.length) (hl:l.length≤140737488355328) (hf : ∀ e∈l,af Tryz.prog f [.agg ⟨cf e⟩,u0] Pre (fun v F=>v = .bool (p e))) :
 af Tryz.prog 198 [h.v l.length,.func (.func f) #[] #[u0]] (fun w=>ai w h.a (l.flatMap cf)∧Pre w) (fun v F=>v = .int .i64 (ek (l.findIdx? p))):=by
 refine af.aG ae Tryz.func198 rfl (by decide) (n:=Tryz.f198.ntmps - 2) rfl rfl fun w0 av=>?_
 conv=>whnf
 refine az.loop ae (ι:=Nat) ([5]++List.range' 8 11) (fun x=>x≤l.length∧∀ j (hj:j<l.length),j<x→p l[j]=false)
  (fun x=>[(8,.v (.int .i64 (x:Int)))]) (fun _=>[]) (fun _=>⟨fun w=>ai w h.a (l.flatMap cf)∧Pre w,[]⟩)
  (fun x=>l.length - x) 0 ⟨Nat.zero_le _,fun j hj h=>by omega⟩ ?_ rfl (ax.refl _) fun i hi=>?_
 · conv=>whnf
   repeat (first | exact au.nil | refine au.any ?_ | refine au.cons ?_)
 obtain⟨hi,hall⟩:=hi
 conv=>whnf
 refine bF.split (fun hlt=>?_) (fun hlt=>?_)
 · have hlt':i<l.length:=by
    simp only[ao,decide_eq_true_eq] at hlt
    omega
   conv=>whnf
   repeat (refine aa.of ?_;conv=>whnf)
   refine ar.aj (ak.index ae (t:=82) rfl rfl rfl (by omega) (by omega) hh.nil fun ad had=>?_)
   conv=>whnf
   repeat (refine aa.of ?_;conv=>whnf)
   refine ar.aj (ak.aQ ae (t:=161) rfl rfl (ad:=ad) (k:=i*6) (L:=l.flatMap cf) (m:=cf l[i]) (.fact fun w hw=>had ▸ hw.1) (by simp) (a8 hz hlt') (hz _) ?_)
   conv=>whnf
   repeat (refine aa.of ?_;conv=>whnf)
   refine aw.val (hf _ (List.getElem_mem hlt')) (fun w hw=>hw.2) (fun v D hv=>?_)
   generalize hq:p l[i]=q at hv
   subst hv
   cases q
   · conv=>whnf
     repeat (refine aa.of ?_;conv=>whnf)
     refine⟨i+1,⟨⟨hlt',fun j hj h=>?_⟩,by dsimp only;omega⟩,?_,?_,ax.refl _⟩
     · rcases Nat.lt_or_eq_of_le (Nat.lt_succ_iff.1 h) with h5 | h5
       · exact hall j hj h5
       · subst h5
         exact hq
     · conv=>whnf
       refine⟨?_,rfl⟩
       repeat (first | exact au.nil | refine au.any ?_ | refine au.cons ?_ | refine au.eq (by rw[wrap_i64 (by omega)];rfl) ?_)
     · conv=>whnf
       exact trivial
   · conv=>whnf
     repeat (refine aa.of ?_;conv=>whnf)
     refine⟨_,ax.refl _,?_⟩
     have:l.findIdx? p=some i:=by
      rw[List.findIdx?_eq_some_iff_getElem]
      exact⟨hlt',hq,fun j hj=>by simpa using hall j (by omega) hj⟩
     rw[this]
     rfl
 · have hie:i=l.length:=by
    simp only[ao,decide_eq_false_iff_not] at hlt
    omega
   subst hie
   conv=>whnf
   repeat (refine aa.of ?_;conv=>whnf)
   refine⟨_,ax.refl _,?_⟩
   have:l.findIdx? p=none:=by
    rw[List.findIdx?_eq_none_iff]
    intro x hx
    obtain⟨j,hj,rfl⟩:=List.getElem_of_mem hx
    simpa using hall j hj hj
   rw[this]
   rfl
theorem zh {α:Type} (cf:α→List Value) (hz : ∀ x,(cf x).length=6) (f:FuncId) (Pre:World→Prop) (p:α→Bool) (u0:Value) (l:List α) (h:Hd) (hh:h.Ok l.length) (hl:l.length≤140737488355328) (hf : ∀ e∈l,af Tryz.prog f [.agg ⟨cf e⟩,u0] Pre (fun v F=>v = .bool (p e))) :
 af Tryz.prog 121 [h.v l.length,.func (.func f) #[] #[u0]] (fun w=>ai w h.a (l.flatMap cf)∧Pre w) (fun v F=>v = .bool (l.any p)):=by
 have hi:=yP cf hz f Pre p u0 l h hh hl hf
 have hv:=dT l p
 generalize ek (l.findIdx? p)=j at *
 refine af.aG ae Tryz.func121 rfl (by decide) (n:=Tryz.f121.ntmps - 2) rfl rfl fun w0 av=>?_
 conv=>whnf
 repeat (refine aa.of ?_;conv=>whnf)
 refine aw.val hi (fun w hw=>hw) (fun v D hv=>?_)
 subst hv
 conv=>whnf
 repeat (refine aa.of ?_;conv=>whnf)
 exact⟨_,ax.refl _,by rw[← hv,aD]⟩
def allI (n:Nat) (q:Nat→Bool):Bool:=(List.range n).all q
theorem aV {n:Nat} {q:Nat→Bool} (h : ∀ j,j<n→q j=true):allI n q=true:=by
 unfold allI
 rw[List.all_eq_true]
 intro j hj
 exact h j (List.mem_range.1 hj)
theorem aJ {n j:Nat} {q:Nat→Bool} (hj:j<n) (h:q j=false):allI n q=false:=by
 unfold allI
 rw[List.all_eq_false]
 exact⟨j,List.mem_range.2 hj,by rw[h];decide⟩
theorem dB {n:Nat} {q:Nat→Bool}:allI n q=true↔∀ j,j<n→q j=true:=by
 unfold allI
 rw[List.all_eq_true]
 exact⟨fun h j hj=>h j (List.mem_range.2 hj),fun h j hj=>h j (List.mem_range.1 hj)⟩
structure Se where
 page:Int
 frame:Int
 w:Bool
 deriving Inhabited
def bT (x:Se):List Value:=[.int .i64 x.page,.int .i64 x.frame,.bool x.w]
def BS (x:Se):Bool:=decide (0≤x.page∧x.page<32∧0≤x.frame∧x.frame<96)
def gM (l:List Se) (j:Nat):Bool:=BS l[j]! && (decide (j=0)||decide (l[j - 1]!.page<l[j]!.page))
theorem bn {α:Type} [Inhabited α] {l:List α} {i:Nat} (h:i<l.length):l[i]! = l[i]:=by
 rw[getElem!_pos]
theorem mJ (l:List Se) (h:Hd) (hh:h.Ok l.length) (hl:l.length≤140737488355328) :
 af Tryz.prog 102 [h.v l.length] (fun w=>ai w h.a (l.flatMap bT)) (fun v F=>v = .bool (allI l.length (gM l))):=by
 refine af.aG ae Tryz.func102 rfl (by decide) (n:=Tryz.f102.ntmps - 1) rfl rfl fun w0 av=>?_
 conv=>whnf
 repeat (refine aa.of ?_;conv=>whnf)
 refine az.loop ae (ι:=Nat) ([3,4]++List.range' 7 24) (fun x=>x≤l.length∧∀ j,j<x→gM l j=true)
  (fun x=>[(7,.v (.int .i64 (x:Int)))]) (fun _=>[]) (fun _=>⟨fun w=>ai w h.a (l.flatMap bT),[]⟩)
  (fun x=>l.length - x) 0 ⟨Nat.zero_le _,fun j h=>by omega⟩ ?_ rfl (ax.refl _) fun i hi=>?_
 · conv=>whnf
   repeat (first | exact au.nil | refine au.any ?_ | refine au.cons ?_)
 obtain⟨hi,hall⟩:=hi
 conv=>whnf
 repeat (refine aa.of ?_;conv=>whnf)
 refine bF.split (fun hlt=>?_) (fun hlt=>?_)
 · have hlt':i<l.length:=by
    simp only[ao,decide_eq_true_eq] at hlt
    omega
   have hsp:=qz l[i].page l[i].frame l[i].w
   have hok:gM l i=(BS l[i]&&(decide (i=0)||decide (l[i - 1]!.page<l[i].page))):=by
    unfold gM
    rw[bn hlt']
   have hpe:decide (0≤l[i].page∧l[i].page<32∧0≤l[i].frame∧l[i].frame<96)=BS l[i]:=rfl
   rw[hpe] at hsp
   generalize BS l[i]=q1 at *
   have hnext:gM l i=true→∀ j,j<i+1→gM l j=true:=fun hs j hj=>by
    rcases Nat.lt_or_eq_of_le (Nat.lt_succ_iff.1 hj) with h5 | h5
    · exact hall j h5
    · exact h5 ▸ hs
   conv=>whnf
   repeat (refine aa.of ?_;conv=>whnf)
   refine ar.aj (ak.index ae (t:=92) rfl rfl rfl (by omega) (by omega) hh.nil fun ad had=>?_)
   conv=>whnf
   repeat (refine aa.of ?_;conv=>whnf)
   refine ar.aj (ak.aQ ae (t:=136) rfl rfl (ad:=ad) (k:=i*3) (L:=l.flatMap bT) (m:=bT l[i]) (.fact fun w hw=>had ▸ hw) (by simp) (a8 (cf:=bT) (z:=3) (fun _=>rfl) hlt') rfl ?_)
   conv=>whnf
   repeat (refine aa.of ?_;conv=>whnf)
   intro b1
   conv=>whnf
   repeat (refine aa.of ?_;conv=>whnf)
   refine az.draw ae mixed rfl rfl ?_
   conv=>whnf
   repeat' (first
    | (refine aw.val hsp (fun w hw=>trivial) (fun v D hv=>?_);subst hv;conv=>whnf))
   cases q1
   · conv=>whnf
     repeat (refine aa.of ?_;conv=>whnf)
     repeat' (first
      | (refine cj.mk ?_ ?_;(focus (first | exact ax.refl _ | exact ax.left _ _ | exact ax.of_le ⟨List.sublist_append_left _ _,fun w h=>h⟩ | exact ax.of_le ⟨List.Sublist.refl _,fun w h=>h.1⟩));conv=>whnf))
     exact⟨_,ax.refl _,by rw[aJ hlt' (by rw[hok];rfl)]⟩
   conv=>whnf
   repeat (refine aa.of ?_;conv=>whnf)
   rcases Nat.eq_zero_or_pos i with h0 | h0
   · have hg:gY (i:Int) 0=false:=by simp[aB];omega
     repeat' (first
      | (rw[hg];conv=>whnf))
     refine⟨i+1,⟨⟨hlt',hnext (by rw[hok,decide_eq_true h0];rfl)⟩,by dsimp only;omega⟩,?_,?_,ax.refl _⟩
     · conv=>whnf
       refine⟨?_,rfl⟩
       repeat (first | exact au.nil | refine au.any ?_ | refine au.cons ?_ | refine au.eq (by rw[wrap_i64 (by omega)];rfl) ?_)
     · conv=>whnf
       exact trivial
   · have hg:gY (i:Int) 0=true:=by simp[aB];omega
     have hj:i - 1<l.length:=by omega
     have hw1:IntKind.i64.wrap ((i:Int) - 1)=((i - 1:Nat):Int):=by
      rw[wrap_i64 (by omega)]
      omega
     have hb:l[i - 1]!.page=l[i - 1].page:=by rw[bn hj]
     repeat' (first
      | (rw[hg];conv=>whnf)
      | (refine ak.index ae (t:=92) rfl rfl rfl (by omega) (by omega) hh.nil fun ad2 had2=>?_;conv=>whnf)
      | (refine ak.aH ae (t:=3) rfl rfl (ad:=ad2) (k:=(i - 1)*3) (L:=l.flatMap bT) (v:=.int .i64 l[i - 1].page) (.fact fun w hw=>had2 ▸ hw) (fun hs=>by rw[hw1];rfl) (bY (cf:=bT) (z:=3) (fun _=>rfl) hj (k:=0) (by decide)) ?_;conv=>whnf))
     by_cases hlt2:l[i - 1].page<l[i].page
     · rw[show dL l[i - 1].page l[i].page=false by simp[aD];omega]
       conv=>whnf
       repeat (refine aa.of ?_;conv=>whnf)
       refine⟨i+1,⟨⟨hlt',hnext (by rw[hok,hb,decide_eq_true hlt2,Bool.or_true];rfl)⟩,by dsimp only;omega⟩,?_,?_,ax.refl _⟩
       · conv=>whnf
         refine⟨?_,rfl⟩
         repeat (first | exact au.nil | refine au.any ?_ | refine au.cons ?_ | refine au.eq (by rw[wrap_i64 (by omega)];rfl) ?_)
       · conv=>whnf
         exact trivial
     · rw[show dL l[i - 1].page l[i].page=true by simp[aD];omega]
       conv=>whnf
       repeat (refine aa.of ?_;conv=>whnf)
       exact⟨_,ax.refl _,by rw[aJ hlt' (by rw[hok,hb,decide_eq_false hlt2,decide_eq_false (by omega)];rfl)]⟩
 · have hie:i=l.length:=by
    simp only[ao,decide_eq_false_iff_not] at hlt
    omega
   subst hie
   conv=>whnf
   repeat (refine aa.of ?_;conv=>whnf)
   exact⟨_,ax.refl _,by rw[aV hall]⟩
structure Al where
 id:Int
 at':Int
 deriving Inhabited
def gu (x:Al):List Value:=[.int .i64 x.id,.int .i64 x.at']
def kj (now:Int) (l:List Al) (j:Nat):Bool:=decide (0≤l[j]!.id∧(0<j→l[j - 1]!.id<l[j]!.id)∧now<l[j]!.at'∧l[j]!.at'≤1099511627776)
theorem m_ (now:Int) (l:List Al) (h:Hd) (hh:h.Ok l.length) (hl:l.length≤140737488355328) :
 af Tryz.prog 108 [.agg ⟨[.int .i64 now,h.v l.length]⟩] (fun w=>ai w h.a (l.flatMap gu)) (fun v F=>v = .bool (allI l.length (kj now l)&&decide (0≤now∧now≤1099511627776∧l.length≤32))):=by
 refine af.aG ae Tryz.func108 rfl (by decide) (n:=Tryz.f108.ntmps - 1) rfl rfl fun w0 av=>?_
 conv=>whnf
 repeat (refine aa.of ?_;conv=>whnf)
 intro b0
 conv=>whnf
 repeat (refine aa.of ?_;conv=>whnf)
 refine az.loop ae (ι:=Nat) ([3,4]++List.range' 8 37) (fun x=>x≤l.length∧∀ j,j<x→kj now l j=true)
  (fun x=>[(8,.v (.int .i64 (x:Int)))]) (fun _=>[[.int .i64 now,h.v l.length]]) (fun _=>⟨fun w=>ai w h.a (l.flatMap gu),[]⟩)
  (fun x=>l.length - x) 0 ⟨Nat.zero_le _,fun j h=>by omega⟩ ?_ rfl (ax.refl _) fun i hi=>?_
 · conv=>whnf
   repeat (first | exact au.nil | refine au.any ?_ | refine au.cons ?_)
 obtain⟨hi,hall⟩:=hi
 conv=>whnf
 repeat (refine aa.of ?_;conv=>whnf)
 refine bF.split (fun hlt=>?_) (fun hlt=>?_)
 · have hlt':i<l.length:=by
    simp only[ao,decide_eq_true_eq] at hlt
    omega
   have hok:kj now l i=decide (0≤l[i].id∧(0<i→l[i - 1]!.id<l[i].id)∧now<l[i].at'∧l[i].at'≤1099511627776):=by
    unfold kj
    rw[bn hlt']
   have hnext:kj now l i=true→∀ j,j<i+1→kj now l j=true:=fun hs j hj=>by
    rcases Nat.lt_or_eq_of_le (Nat.lt_succ_iff.1 hj) with h5 | h5
    · exact hall j h5
    · exact h5 ▸ hs
   conv=>whnf
   repeat (refine aa.of ?_;conv=>whnf)
   refine ar.aj (ak.index ae (t:=116) rfl rfl rfl (by omega) (by omega) hh.nil fun ad had=>?_)
   conv=>whnf
   repeat (refine aa.of ?_;conv=>whnf)
   refine ar.aj (ak.aQ ae (t:=176) rfl rfl (ad:=ad) (k:=i*2) (L:=l.flatMap gu) (m:=gu l[i]) (.fact fun w hw=>had ▸ hw) (by simp) (a8 (cf:=gu) (z:=2) (fun _=>rfl) hlt') rfl ?_)
   conv=>whnf
   repeat (refine aa.of ?_;conv=>whnf)
   intro b1
   conv=>whnf
   repeat (refine aa.of ?_;conv=>whnf)
   refine az.draw ae mixed rfl rfl ?_
   conv=>whnf
   rcases Nat.eq_zero_or_pos i with h0 | h0
   · have hg:gY (i:Int) 0=false:=by simp[aB];omega
     repeat' (first
      | (rw[hg];conv=>whnf)
      | (split<;>conv=>whnf))
     all_goals first
      | (refine⟨_,ax.refl _,?_⟩;rw[aJ hlt' (by rw[hok];((try subst heq1);(try subst heq2);(try subst heq3);simp only[cond_true,cond_false,ao,aC,aB,aD,aA,aE,decide_eq_true_eq,decide_eq_false_iff_not,beq_iff_eq,bne_iff_ne,ne_eq,beq_eq_false_iff_ne,bne_eq_false_iff_eq,Bool.not_eq_true,Bool.not_eq_false,Bool.and_true,Bool.true_and,Bool.and_false,Bool.false_and,Bool.or_true,Bool.or_false,Bool.true_or,Bool.false_or,Bool.not_eq_true',Bool.not_eq_false',Bool.not_true,Bool.not_false] at *;first | omega))];first | done | rfl)
      | (
       refine⟨i+1,⟨⟨hlt',hnext (by rw[hok];((try subst heq1);(try subst heq2);(try subst heq3);simp only[cond_true,cond_false,ao,aC,aB,aD,aA,aE,decide_eq_true_eq,decide_eq_false_iff_not,beq_iff_eq,bne_iff_ne,ne_eq,beq_eq_false_iff_ne,bne_eq_false_iff_eq,Bool.not_eq_true,Bool.not_eq_false,Bool.and_true,Bool.true_and,Bool.and_false,Bool.false_and,Bool.or_true,Bool.or_false,Bool.true_or,Bool.false_or,Bool.not_eq_true',Bool.not_eq_false',Bool.not_true,Bool.not_false] at *;first | omega))⟩,by dsimp only;omega⟩,?_,?_,ax.refl _⟩;(conv=>whnf);refine⟨?_,rfl⟩;repeat (first | exact au.nil | refine au.any ?_ | refine au.cons ?_ | refine au.eq (by rw[wrap_i64 (by omega)];rfl) ?_)
       (conv=>whnf);exact⟨⟨rfl,rfl⟩,trivial⟩)
   · have hg:gY (i:Int) 0=true:=by simp[aB];omega
     have hj:i - 1<l.length:=by omega
     have hw1:IntKind.i64.wrap ((i:Int) - 1)=((i - 1:Nat):Int):=by
      rw[wrap_i64 (by omega)]
      omega
     rw[bn hj] at hok
     repeat' (first
      | (rw[hg];conv=>whnf)
      | (refine ak.index ae (t:=116) rfl rfl rfl (by omega) (by omega) hh.nil fun ad2 had2=>?_;conv=>whnf)
      | (refine ak.aH ae (t:=3) rfl rfl (ad:=ad2) (k:=(i - 1)*2) (L:=l.flatMap gu) (v:=.int .i64 l[i - 1].id) (.fact fun w hw=>had2 ▸ hw) (fun hs=>by rw[hw1];rfl) (bY (cf:=gu) (z:=2) (fun _=>rfl) hj (k:=0) (by decide)) ?_;conv=>whnf)
      | (split<;>conv=>whnf))
     all_goals first
      | (refine⟨_,ax.refl _,?_⟩;rw[aJ hlt' (by rw[hok];((try subst heq1);(try subst heq2);(try subst heq3);simp only[cond_true,cond_false,ao,aC,aB,aD,aA,aE,decide_eq_true_eq,decide_eq_false_iff_not,beq_iff_eq,bne_iff_ne,ne_eq,beq_eq_false_iff_ne,bne_eq_false_iff_eq,Bool.not_eq_true,Bool.not_eq_false,Bool.and_true,Bool.true_and,Bool.and_false,Bool.false_and,Bool.or_true,Bool.or_false,Bool.true_or,Bool.false_or,Bool.not_eq_true',Bool.not_eq_false',Bool.not_true,Bool.not_false] at *;first | omega))];first | done | rfl)
      | (
       refine⟨i+1,⟨⟨hlt',hnext (by rw[hok];((try subst heq1);(try subst heq2);(try subst heq3);simp only[cond_true,cond_false,ao,aC,aB,aD,aA,aE,decide_eq_true_eq,decide_eq_false_iff_not,beq_iff_eq,bne_iff_ne,ne_eq,beq_eq_false_iff_ne,bne_eq_false_iff_eq,Bool.not_eq_true,Bool.not_eq_false,Bool.and_true,Bool.true_and,Bool.and_false,Bool.false_and,Bool.or_true,Bool.or_false,Bool.true_or,Bool.false_or,Bool.not_eq_true',Bool.not_eq_false',Bool.not_true,Bool.not_false] at *;first | omega))⟩,by dsimp only;omega⟩,?_,?_,ax.refl _⟩;(conv=>whnf);refine⟨?_,rfl⟩;repeat (first | exact au.nil | refine au.any ?_ | refine au.cons ?_ | refine au.eq (by rw[wrap_i64 (by omega)];rfl) ?_)
       (conv=>whnf);exact⟨⟨rfl,rfl⟩,trivial⟩)
 · have hie:i=l.length:=by
    simp only[ao,decide_eq_false_iff_not] at hlt
    omega
   subst hie
   conv=>whnf
   repeat (refine aa.of ?_;conv=>whnf)
   refine⟨_,ax.refl _,?_⟩
   rw[aV hall,Bool.true_and]
   congr 1
   rw[Bool.eq_iff_iff]
   simp[aD,aC]
   omega
structure Ti where
 owner:Int
 tag:Int
 due:Int
 deriving Inhabited
def cu (x:Ti):List Value:=[.int .i64 x.owner,.int .i64 x.tag,.int .i64 x.due]
def kp (l:List Ti) (j:Nat):Bool:=decide ((1≤l[j]!.owner∧l[j]!.owner≤10)∧0≤l[j]!.due∧l[j]!.due≤2199023255552∧(0<j→dN l[j - 1]!.owner l[j]!.owner l[j - 1]!.tag l[j]!.tag<0))
theorem r5 (a:Int):af Tryz.prog 195 [.int .i64 a] (fun _=>True) (fun v F=>v = .bool (decide (1≤a∧a≤10))):=by
 refine af.aG ae Tryz.func195 rfl (by decide) (n:=Tryz.f195.ntmps - 1) rfl rfl fun w0 av=>?_
 conv=>whnf
 repeat (refine aa.of ?_;conv=>whnf)
 exact⟨_,ax.refl _,by congr 1;rw[Bool.eq_iff_iff];simp[aD,ao,aC,aB,aA,aE,and_assoc];try omega⟩
theorem qF (l:List Ti) (h:Hd) (hh:h.Ok l.length) (hl:l.length≤140737488355328) :
 af Tryz.prog 113 [h.v l.length] (fun w=>ai w h.a (l.flatMap cu)) (fun v F=>v = .bool (allI l.length (kp l)&&decide (l.length≤100))):=by
 refine af.aG ae Tryz.func113 rfl (by decide) (n:=Tryz.f113.ntmps - 1) rfl rfl fun w0 av=>?_
 conv=>whnf
 repeat (refine aa.of ?_;conv=>whnf)
 refine az.loop ae (ι:=Nat) ([3,4]++List.range' 7 37) (fun x=>x≤l.length∧∀ j,j<x→kp l j=true)
  (fun x=>[(7,.v (.int .i64 (x:Int)))]) (fun _=>[]) (fun _=>⟨fun w=>ai w h.a (l.flatMap cu),[]⟩)
  (fun x=>l.length - x) 0 ⟨Nat.zero_le _,fun j h=>by omega⟩ ?_ rfl (ax.of_le ⟨by simp[Value.cells],fun w hw=>hw⟩) fun i hi=>?_
 · conv=>whnf
   repeat (first | exact au.nil | refine au.any ?_ | refine au.cons ?_)
 obtain⟨hi,hall⟩:=hi
 conv=>whnf
 repeat (refine aa.of ?_;conv=>whnf)
 refine bF.split (fun hlt=>?_) (fun hlt=>?_)
 · have hlt':i<l.length:=by
    simp only[ao,decide_eq_true_eq] at hlt
    omega
   have hok:kp l i=decide ((1≤l[i].owner∧l[i].owner≤10)∧0≤l[i].due∧l[i].due≤2199023255552∧(0<i→dN l[i - 1]!.owner l[i].owner l[i - 1]!.tag l[i].tag<0)):=by
    unfold kp
    rw[bn hlt']
   have hnext:kp l i=true→∀ j,j<i+1→kp l j=true:=fun hs j hj=>by
    rcases Nat.lt_or_eq_of_le (Nat.lt_succ_iff.1 hj) with h5 | h5
    · exact hall j h5
    · exact h5 ▸ hs
   have hq1:=r5 l[i].owner
   obtain⟨q1,heq1⟩ : ∃ q,q=decide (1≤l[i].owner∧l[i].owner≤10):=⟨_,rfl⟩
   rw[← heq1] at hq1
   conv=>whnf
   repeat (refine aa.of ?_;conv=>whnf)
   refine ar.aj (ak.index ae (t:=88) rfl rfl rfl (by first | omega) (by first | omega) hh.nil fun ad had=>?_)
   conv=>whnf
   repeat (refine aa.of ?_;conv=>whnf)
   refine ar.aj (ak.aQ ae (t:=166) rfl rfl (ad:=ad) (k:=i*3) (L:=l.flatMap cu) (m:=cu l[i]) (.fact fun w hw=>had ▸ hw) (by simp) (a8 (cf:=cu) (z:=3) (fun _=>rfl) hlt') rfl ?_)
   conv=>whnf
   repeat (refine aa.of ?_;conv=>whnf)
   intro b1
   conv=>whnf
   repeat (refine aa.of ?_;conv=>whnf)
   refine az.draw ae mixed rfl rfl ?_
   conv=>whnf
   rcases Nat.eq_zero_or_pos i with h0 | h0
   · have hg:gY (i:Int) 0=false:=by simp[aB];omega
     repeat' (first
      | (rw[hg];conv=>whnf)
      | (refine aw.val hq1 (fun w hw=>trivial) (fun v D hv=>?_);subst hv;conv=>whnf)
      | (split<;>conv=>whnf))
     all_goals first
      | (refine⟨_,ax.refl _,?_⟩;rw[aJ hlt' (by rw[hok];((try subst heq1);(try subst heq2);(try subst heq3);simp only[cond_true,cond_false,ao,aC,aB,aD,aA,aE,decide_eq_true_eq,decide_eq_false_iff_not,beq_iff_eq,bne_iff_ne,ne_eq,beq_eq_false_iff_ne,bne_eq_false_iff_eq,Bool.not_eq_true,Bool.not_eq_false,Bool.and_true,Bool.true_and,Bool.and_false,Bool.false_and,Bool.or_true,Bool.or_false,Bool.true_or,Bool.false_or,Bool.not_eq_true',Bool.not_eq_false',Bool.not_true,Bool.not_false] at *;first | omega))];first | done | rfl)
      | (
       refine⟨i+1,⟨⟨hlt',hnext (by rw[hok];((try subst heq1);(try subst heq2);(try subst heq3);simp only[cond_true,cond_false,ao,aC,aB,aD,aA,aE,decide_eq_true_eq,decide_eq_false_iff_not,beq_iff_eq,bne_iff_ne,ne_eq,beq_eq_false_iff_ne,bne_eq_false_iff_eq,Bool.not_eq_true,Bool.not_eq_false,Bool.and_true,Bool.true_and,Bool.and_false,Bool.false_and,Bool.or_true,Bool.or_false,Bool.true_or,Bool.false_or,Bool.not_eq_true',Bool.not_eq_false',Bool.not_true,Bool.not_false] at *;first | omega))⟩,by dsimp only;omega⟩,?_,?_,ax.refl _⟩;(conv=>whnf);refine⟨?_,rfl⟩;repeat (first | exact au.nil | refine au.any ?_ | refine au.cons ?_ | refine au.eq (by rw[wrap_i64 (by omega)];rfl) ?_)
       (conv=>whnf);exact trivial)
   · have hg:gY (i:Int) 0=true:=by simp[aB];omega
     have hj:i - 1<l.length:=by omega
     have hw1:IntKind.i64.wrap ((i:Int) - 1)=((i - 1:Nat):Int):=by
      rw[wrap_i64 (by omega)]
      omega
     try rw[bn hj] at hok
     repeat' (first
      | (refine dv.of ?_;conv=>whnf)
      | (rw[hg];conv=>whnf)
      | (refine aw.val hq1 (fun w hw=>trivial) (fun v D hv=>?_);subst hv;conv=>whnf)
      | (refine ak.index ae (t:=88) rfl rfl rfl (by first | omega) (by first | omega) hh.nil fun ad2 had2=>?_;conv=>whnf)
      | (refine ak.aQ ae (t:=166) rfl rfl (ad:=ad2) (k:=(i - 1)*3) (L:=l.flatMap cu) (m:=cu l[i - 1]) (.fact fun w hw=>had2 ▸ hw) (by rw[hw1];simp) (a8 (cf:=cu) (z:=3) (fun _=>rfl) hj) rfl ?_;conv=>whnf)
      | (refine aw.val (qN l[i - 1].owner l[i - 1].tag l[i - 1].due l[i].owner l[i].tag l[i].due) (fun w hw=>trivial) (fun v D hv=>?_);subst hv;conv=>whnf)
      | (split<;>conv=>whnf))
     all_goals first
      | (refine⟨_,ax.refl _,?_⟩;rw[aJ hlt' (by rw[hok];((try subst heq1);(try subst heq2);(try subst heq3);simp only[cond_true,cond_false,ao,aC,aB,aD,aA,aE,decide_eq_true_eq,decide_eq_false_iff_not,beq_iff_eq,bne_iff_ne,ne_eq,beq_eq_false_iff_ne,bne_eq_false_iff_eq,Bool.not_eq_true,Bool.not_eq_false,Bool.and_true,Bool.true_and,Bool.and_false,Bool.false_and,Bool.or_true,Bool.or_false,Bool.true_or,Bool.false_or,Bool.not_eq_true',Bool.not_eq_false',Bool.not_true,Bool.not_false] at *;first | omega))];first | done | rfl)
      | (
       refine⟨i+1,⟨⟨hlt',hnext (by rw[hok];((try subst heq1);(try subst heq2);(try subst heq3);simp only[cond_true,cond_false,ao,aC,aB,aD,aA,aE,decide_eq_true_eq,decide_eq_false_iff_not,beq_iff_eq,bne_iff_ne,ne_eq,beq_eq_false_iff_ne,bne_eq_false_iff_eq,Bool.not_eq_true,Bool.not_eq_false,Bool.and_true,Bool.true_and,Bool.and_false,Bool.false_and,Bool.or_true,Bool.or_false,Bool.true_or,Bool.false_or,Bool.not_eq_true',Bool.not_eq_false',Bool.not_true,Bool.not_false] at *;first | omega))⟩,by dsimp only;omega⟩,?_,?_,ax.refl _⟩;(conv=>whnf);refine⟨?_,rfl⟩;repeat (first | exact au.nil | refine au.any ?_ | refine au.cons ?_ | refine au.eq (by rw[wrap_i64 (by omega)];rfl) ?_)
       (conv=>whnf);exact trivial)
 · have hie:i=l.length:=by
    simp only[ao,decide_eq_false_iff_not] at hlt
    omega
   subst hie
   conv=>whnf
   repeat (refine aa.of ?_;conv=>whnf)
   refine⟨_,ax.refl _,?_⟩
   rw[aV hall,Bool.true_and]
   congr 1
   rw[Bool.eq_iff_iff]
   simp[aD,aC]
   try omega
structure Gr where
 owner:Int
 grantee:Int
 frame:Int
 rights:Int
 deriving Inhabited
def bM (x:Gr):List Value:=[.int .i64 x.owner,.int .i64 x.grantee,.int .i64 x.frame,.int .i64 x.rights]
theorem kD (a:Int):af Tryz.prog 236 [.int .i64 a] (fun _=>True) (fun v F=>v = .bool (decide (1≤a∧a<32))):=by
 refine af.aG ae Tryz.func236 rfl (by decide) (n:=Tryz.f236.ntmps - 1) rfl rfl fun w0 av=>?_
 conv=>whnf
 repeat (refine aa.of ?_;conv=>whnf)
 exact⟨_,ax.refl _,by congr 1;rw[Bool.eq_iff_iff];simp[aD,ao,aC,aB,aA,aE,and_assoc];try omega⟩
theorem jz (a:Int):af Tryz.prog 201 [.int .i64 a] (fun _=>True) (fun v F=>v = .bool (decide (1≤a∧a≤3))):=by
 refine af.aG ae Tryz.func201 rfl (by decide) (n:=Tryz.f201.ntmps - 1) rfl rfl fun w0 av=>?_
 conv=>whnf
 repeat (refine aa.of ?_;conv=>whnf)
 exact⟨_,ax.refl _,by congr 1;rw[Bool.eq_iff_iff];simp[aD,ao,aC,aB,aA,aE,and_assoc];try omega⟩
def pV (a b:Int):Bool:=aR (Sx.bits .andNot .i64 b a) 0
theorem mo (a b:Int):af Tryz.prog 204 [.int .i64 a,.int .i64 b] (fun _=>True) (fun v F=>v = .bool (pV a b)):=by
 refine af.aG ae Tryz.func204 rfl (by decide) (n:=Tryz.f204.ntmps - 2) rfl rfl fun w0 av=>?_
 conv=>whnf
 repeat (refine aa.of ?_;conv=>whnf)
 exact⟨_,ax.refl _,rfl⟩
def xp (x:Gr):Bool:=decide ((1≤x.owner∧x.owner<32)∧(1≤x.grantee∧x.grantee<32)∧x.owner≠x.grantee∧x.grantee≠4∧0≤x.frame∧x.frame<96∧(1≤x.rights∧x.rights≤3))
theorem oS (x:Gr):af Tryz.prog 192 [.agg ⟨bM x⟩] (fun _=>True) (fun v F=>v = .bool (xp x)):=by
 have h1:=kD x.owner
 have h2:=kD x.grantee
 have h3:=jz x.rights
 have hr:xp x=(decide (1≤x.owner∧x.owner<32)&&decide (1≤x.grantee∧x.grantee<32)&&decide (x.owner≠x.grantee∧x.grantee≠4∧0≤x.frame∧x.frame<96)&&decide (1≤x.rights∧x.rights≤3)):=by
  unfold xp
  rw[Bool.eq_iff_iff]
  simp only[Bool.and_eq_true,decide_eq_true_eq]
  omega
 rw[hr]
 obtain⟨q1,heq1⟩ : ∃ q,q=decide (1≤x.owner∧x.owner<32):=⟨_,rfl⟩
 obtain⟨q2,heq2⟩ : ∃ q,q=decide (1≤x.grantee∧x.grantee<32):=⟨_,rfl⟩
 obtain⟨q3,heq3⟩ : ∃ q,q=decide (1≤x.rights∧x.rights≤3):=⟨_,rfl⟩
 rw[← heq1,← heq2,← heq3]
 rw[← heq1] at h1
 rw[← heq2] at h2
 rw[← heq3] at h3
 clear heq1 heq2 heq3 hr
 refine af.aG ae Tryz.func192 rfl (by decide) (n:=Tryz.f192.ntmps - 1) rfl rfl fun w0 av=>?_
 conv=>whnf
 repeat (refine aa.of ?_;conv=>whnf)
 intro b1
 conv=>whnf
 repeat (refine aa.of ?_;conv=>whnf)
 repeat' (first
  | (refine aa.of ?_;conv=>whnf)
  | (refine aw.val h1 (fun w hw=>trivial) (fun v D hv=>?_);subst hv;conv=>whnf)
  | (refine aw.val h2 (fun w hw=>trivial) (fun v D hv=>?_);subst hv;conv=>whnf)
  | (refine aw.val h3 (fun w hw=>trivial) (fun v D hv=>?_);subst hv;conv=>whnf)
  | (cases q1<;>conv=>whnf)
  | (cases q2<;>conv=>whnf)
  | (cases q3<;>conv=>whnf)
  | (split<;>conv=>whnf))
 all_goals refine⟨_,ax.refl _,?_⟩
 all_goals first | rfl | (congr 1;rw[Bool.eq_iff_iff];(try simp only[Bool.cond_true,Bool.cond_false,cond_true,cond_false,ao,aC,aB,aD,aA,aE,decide_eq_true_eq,decide_eq_false_iff_not,beq_iff_eq,bne_iff_ne,ne_eq,Bool.and_true,Bool.true_and,Bool.and_false,Bool.false_and,Bool.or_true,Bool.or_false,Bool.true_or,Bool.false_or,Bool.and_eq_true,Bool.or_eq_true,Bool.not_eq_true',Bool.not_eq_false',Bool.not_true,Bool.not_false,Bool.false_eq_true,true_iff,false_iff,iff_true,iff_false,Bool.and_eq_false_imp,Bool.or_eq_false_iff,bne_eq_false_iff_eq,beq_eq_false_iff_ne,and_assoc] at *);(try omega);done)
def jT (l:List Gr) (task frame need:Int):Bool:=decide (1≤need∧need≤3)&&l.any fun x=>aR x.grantee task&&(aR x.frame frame&&pV x.rights need)
theorem sG (x:Gr) (b1 b2 b3:Nat) (task frame need:Int):af Tryz.prog 203 [.agg ⟨bM x⟩,.pointer (some ⟨b1,0,none⟩),.pointer (some ⟨b2,0,none⟩),.pointer (some ⟨b3,0,none⟩)]
 (fun w=>ai w (some ⟨b1,0,none⟩) [.int .i64 task]∧ai w (some ⟨b2,0,none⟩) [.int .i64 frame]∧ai w (some ⟨b3,0,none⟩) [.int .i64 need]) (fun v F=>v = .bool (aR x.grantee task&&(aR x.frame frame&&pV x.rights need))):=by
 have h1:=mo x.rights need
 generalize pV x.rights need=q1 at *
 refine af.aG ae Tryz.func203 rfl (by decide) (n:=Tryz.f203.ntmps - 4) rfl rfl fun w0 av=>?_
 conv=>whnf
 repeat (refine aa.of ?_;conv=>whnf)
 intro b4
 conv=>whnf
 repeat (refine aa.of ?_;conv=>whnf)
 repeat' (first
  | (refine ar.aj (ak.aH ae (t:=3) rfl rfl (ad:=⟨b1,0,none⟩) (k:=0) (L:=[.int .i64 task]) (v:=.int .i64 task) (.fact fun w hw=>hw.1) (fun _=>rfl) rfl ?_);conv=>whnf)
  | (refine ar.aj (ak.aH ae (t:=3) rfl rfl (ad:=⟨b2,0,none⟩) (k:=0) (L:=[.int .i64 frame]) (v:=.int .i64 frame) (.fact fun w hw=>hw.2.1) (fun _=>rfl) rfl ?_);conv=>whnf)
  | (refine ar.aj (ak.aH ae (t:=3) rfl rfl (ad:=⟨b3,0,none⟩) (k:=0) (L:=[.int .i64 need]) (v:=.int .i64 need) (.fact fun w hw=>hw.2.2) (fun _=>rfl) rfl ?_);conv=>whnf)
  | (refine aw.val h1 (fun w hw=>trivial) (fun v D hv=>?_);subst hv;conv=>whnf)
  | (cases q1<;>conv=>whnf)
  | (split<;>conv=>whnf))
 all_goals refine⟨_,ax.refl _,?_⟩
 all_goals first | rfl | (congr 1;rw[Bool.eq_iff_iff];(try simp only[Bool.cond_true,Bool.cond_false,cond_true,cond_false,ao,aC,aB,aD,aA,aE,decide_eq_true_eq,decide_eq_false_iff_not,beq_iff_eq,bne_iff_ne,ne_eq,Bool.and_true,Bool.true_and,Bool.and_false,Bool.false_and,Bool.or_true,Bool.or_false,Bool.true_or,Bool.false_or,Bool.and_eq_true,Bool.or_eq_true,Bool.not_eq_true',Bool.not_eq_false',Bool.not_true,Bool.not_false,Bool.false_eq_true,true_iff,false_iff,iff_true,iff_false,Bool.and_eq_false_imp,Bool.or_eq_false_iff,bne_eq_false_iff_eq,beq_eq_false_iff_ne,and_assoc] at *);(try omega);done)
theorem AX {α:Type} (cf:α→List Value) (hz : ∀ x,(cf x).length=4) (f:FuncId) (Pre:World→Prop) (p:α→Bool) (u0 u1 u2:Value) (l:List α) (h:Hd) (hh:h.Ok l.length) (hl:l.length≤140737488355328) (hf : ∀ e∈l,af Tryz.prog f [.agg ⟨cf e⟩,u0,u1,u2] Pre (fun v F=>v = .bool (p e))) :
 af Tryz.prog 237 [h.v l.length,.func (.func f) #[] #[u0,u1,u2]] (fun w=>ai w h.a (l.flatMap cf)∧Pre w) (fun v F=>v = .int .i64 (ek (l.findIdx? p))):=by
 refine af.aG ae Tryz.func237 rfl (by decide) (n:=Tryz.f237.ntmps - 2) rfl rfl fun w0 av=>?_
 conv=>whnf
 refine az.loop ae (ι:=Nat) ([5]++List.range' 8 11) (fun x=>x≤l.length∧∀ j (hj:j<l.length),j<x→p l[j]=false)
  (fun x=>[(8,.v (.int .i64 (x:Int)))]) (fun _=>[]) (fun _=>⟨fun w=>ai w h.a (l.flatMap cf)∧Pre w,[]⟩)
  (fun x=>l.length - x) 0 ⟨Nat.zero_le _,fun j hj h=>by omega⟩ ?_ rfl (ax.refl _) fun i hi=>?_
 · conv=>whnf
   repeat (first | exact au.nil | refine au.any ?_ | refine au.cons ?_)
 obtain⟨hi,hall⟩:=hi
 conv=>whnf
 refine bF.split (fun hlt=>?_) (fun hlt=>?_)
 · have hlt':i<l.length:=by
    simp only[ao,decide_eq_true_eq] at hlt
    omega
   conv=>whnf
   repeat (refine aa.of ?_;conv=>whnf)
   refine ar.aj (ak.index ae (t:=86) rfl rfl rfl (by omega) (by omega) hh.nil fun ad had=>?_)
   conv=>whnf
   repeat (refine aa.of ?_;conv=>whnf)
   refine ar.aj (ak.aQ ae (t:=163) rfl rfl (ad:=ad) (k:=i*4) (L:=l.flatMap cf) (m:=cf l[i]) (.fact fun w hw=>had ▸ hw.1) (by simp) (a8 hz hlt') (hz _) ?_)
   conv=>whnf
   repeat (refine aa.of ?_;conv=>whnf)
   refine aw.val (hf _ (List.getElem_mem hlt')) (fun w hw=>hw.2) (fun v D hv=>?_)
   generalize hq:p l[i]=q at hv
   subst hv
   cases q
   · conv=>whnf
     repeat (refine aa.of ?_;conv=>whnf)
     refine⟨i+1,⟨⟨hlt',fun j hj h=>?_⟩,by dsimp only;omega⟩,?_,?_,ax.refl _⟩
     · rcases Nat.lt_or_eq_of_le (Nat.lt_succ_iff.1 h) with h5 | h5
       · exact hall j hj h5
       · subst h5
         exact hq
     · conv=>whnf
       refine⟨?_,rfl⟩
       repeat (first | exact au.nil | refine au.any ?_ | refine au.cons ?_ | refine au.eq (by rw[wrap_i64 (by omega)];rfl) ?_)
     · conv=>whnf
       exact trivial
   · conv=>whnf
     repeat (refine aa.of ?_;conv=>whnf)
     refine⟨_,ax.refl _,?_⟩
     have:l.findIdx? p=some i:=by
      rw[List.findIdx?_eq_some_iff_getElem]
      exact⟨hlt',hq,fun j hj=>by simpa using hall j (by omega) hj⟩
     rw[this]
     rfl
 · have hie:i=l.length:=by
    simp only[ao,decide_eq_false_iff_not] at hlt
    omega
   subst hie
   conv=>whnf
   repeat (refine aa.of ?_;conv=>whnf)
   refine⟨_,ax.refl _,?_⟩
   have:l.findIdx? p=none:=by
    rw[List.findIdx?_eq_none_iff]
    intro x hx
    obtain⟨j,hj,rfl⟩:=List.getElem_of_mem hx
    simpa using hall j hj hj
   rw[this]
   rfl
theorem Aw {α:Type} (cf:α→List Value) (hz : ∀ x,(cf x).length=4) (f:FuncId) (Pre:World→Prop) (p:α→Bool) (u0 u1 u2:Value) (l:List α) (h:Hd) (hh:h.Ok l.length) (hl:l.length≤140737488355328) (hf : ∀ e∈l,af Tryz.prog f [.agg ⟨cf e⟩,u0,u1,u2] Pre (fun v F=>v = .bool (p e))) :
 af Tryz.prog 202 [h.v l.length,.func (.func f) #[] #[u0,u1,u2]] (fun w=>ai w h.a (l.flatMap cf)∧Pre w) (fun v F=>v = .bool (l.any p)):=by
 have hi:=AX cf hz f Pre p u0 u1 u2 l h hh hl hf
 have hv:=dT l p
 generalize ek (l.findIdx? p)=j at *
 refine af.aG ae Tryz.func202 rfl (by decide) (n:=Tryz.f202.ntmps - 2) rfl rfl fun w0 av=>?_
 conv=>whnf
 repeat (refine aa.of ?_;conv=>whnf)
 refine aw.val hi (fun w hw=>hw) (fun v D hv=>?_)
 subst hv
 conv=>whnf
 repeat (refine aa.of ?_;conv=>whnf)
 exact⟨_,ax.refl _,by rw[← hv,aD]⟩
theorem mg (l:List Gr) (h:Hd) (hh:h.Ok l.length) (hl:l.length≤140737488355328) (task frame need:Int) :
 af Tryz.prog 126 [h.v l.length,.int .i64 task,.int .i64 frame,.int .i64 need] (fun w=>ai w h.a (l.flatMap bM)) (fun v F=>v = .bool (jT l task frame need)):=by
 have h1:=jz need
 have hg : ∀ b1 b2 b3,_:=fun(b1 b2 b3:Nat)=>Aw bM (fun _=>rfl) 203 (fun w=>ai w (some ⟨b1,0,none⟩) [.int .i64 task]∧ai w (some ⟨b2,0,none⟩) [.int .i64 frame]∧ai w (some ⟨b3,0,none⟩) [.int .i64 need])
  (fun x=>aR x.grantee task&&(aR x.frame frame&&pV x.rights need)) (.pointer (some ⟨b1,0,none⟩)) (.pointer (some ⟨b2,0,none⟩)) (.pointer (some ⟨b3,0,none⟩)) l h hh hl (fun e _=>sG e b1 b2 b3 task frame need)
 unfold jT
 generalize (l.any fun x=>aR x.grantee task&&(aR x.frame frame&&pV x.rights need))=q2 at *
 generalize decide (1≤need∧need≤3)=q1 at *
 refine af.aG ae Tryz.func126 rfl (by decide) (n:=Tryz.f126.ntmps - 4) rfl rfl fun w0 av=>?_
 conv=>whnf
 repeat (refine aa.of ?_;conv=>whnf)
 intro b1
 conv=>whnf
 repeat (refine aa.of ?_;conv=>whnf)
 intro b2
 conv=>whnf
 repeat (refine aa.of ?_;conv=>whnf)
 intro b3
 conv=>whnf
 repeat (refine aa.of ?_;conv=>whnf)
 refine aw.val h1 (fun w hw=>trivial) (fun v D hv=>?_)
 subst hv
 conv=>whnf
 repeat (refine aa.of ?_;conv=>whnf)
 cases q1
 · conv=>whnf
   repeat (refine aa.of ?_;conv=>whnf)
   exact⟨_,ax.refl _,rfl⟩
 conv=>whnf
 repeat (refine aa.of ?_;conv=>whnf)
 refine aw.look (hg b1 b2 b3) ((Loc.row _ _).and ((Loc.row _ _).and ((Loc.row _ _).and (Loc.row _ _)))) (fun w hst=>⟨hst.now,aK.box 0 rfl (by simp) rfl w hst,aK.box 1 rfl (by simp) rfl w hst,aK.box 2 rfl (by simp) rfl w hst⟩) ?_
 conv=>whnf
 repeat (refine aa.of ?_;conv=>whnf)
 exact⟨_,ax.refl _,rfl⟩
def bH (x:Int):Value:=.int .i64 x
theorem ua (x:Bool) (l:List Bool) (h:Hd) (hh:h.Ok l.length) (hl:l.length≤140737488355328) :
 af Tryz.prog 211 [h.v l.length,.bool x] (fun w=>ai w h.a (l.map Value.bool)) (fun v F=>v = .int .i64 (ek (l.findIdx? fun y=>x == y))):=by
 refine af.aG ae Tryz.func211 rfl (by decide) (n:=Tryz.f211.ntmps - 2) rfl rfl fun w0 av=>?_
 conv=>whnf
 refine az.loop ae (ι:=Nat) ([5]++List.range' 8 11) (fun k=>k≤l.length∧∀ j (hj:j<l.length),j<k→(x == l[j])=false)
  (fun x=>[(8,.v (.int .i64 (x:Int)))]) (fun _=>[]) (fun _=>⟨fun w=>ai w h.a (l.map Value.bool),[]⟩)
  (fun x=>l.length - x) 0 ⟨Nat.zero_le _,fun j hj h=>by omega⟩ ?_ rfl (ax.refl _) fun i hi=>?_
 · conv=>whnf
   repeat (first | exact au.nil | refine au.any ?_ | refine au.cons ?_)
 obtain⟨hi,hall⟩:=hi
 conv=>whnf
 refine bF.split (fun hlt=>?_) (fun hlt=>?_)
 · have hlt':i<l.length:=by
    simp only[ao,decide_eq_true_eq] at hlt
    omega
   conv=>whnf
   repeat (refine aa.of ?_;conv=>whnf)
   refine ar.aj (ak.index ae (t:=273) rfl rfl rfl (by omega) (by omega) hh.nil fun ad had=>?_)
   conv=>whnf
   repeat (refine aa.of ?_;conv=>whnf)
   refine ar.aj (ak.aH ae (t:=4) rfl rfl (ad:=ad) (k:=i) (L:=l.map Value.bool) (v:=.bool l[i]) (.fact fun w hw=>had ▸ hw) (fun hs=>by rw[Nat.mul_one];rfl) (by rw[List.getElem?_map,List.getElem?_eq_getElem hlt'];rfl) ?_)
   conv=>whnf
   repeat (refine aa.of ?_;conv=>whnf)
   generalize hq:(x == l[i])=q
   cases q
   · conv=>whnf
     repeat (refine aa.of ?_;conv=>whnf)
     refine⟨i+1,⟨⟨hlt',fun j hj h=>?_⟩,by dsimp only;omega⟩,?_,?_,ax.refl _⟩
     · rcases Nat.lt_or_eq_of_le (Nat.lt_succ_iff.1 h) with h5 | h5
       · exact hall j hj h5
       · subst h5
         exact hq
     · conv=>whnf
       refine⟨?_,rfl⟩
       repeat (first | exact au.nil | refine au.any ?_ | refine au.cons ?_ | refine au.eq (by rw[wrap_i64 (by omega)];rfl) ?_)
     · conv=>whnf
       exact trivial
   · conv=>whnf
     repeat (refine aa.of ?_;conv=>whnf)
     refine⟨_,ax.refl _,?_⟩
     have:(l.findIdx? fun y=>x == y)=some i:=by
      rw[List.findIdx?_eq_some_iff_getElem]
      exact⟨hlt',hq,fun j hj=>by simpa using hall j (by omega) hj⟩
     rw[this]
     rfl
 · have hie:i=l.length:=by
    simp only[ao,decide_eq_false_iff_not] at hlt
    omega
   subst hie
   conv=>whnf
   repeat (refine aa.of ?_;conv=>whnf)
   refine⟨_,ax.refl _,?_⟩
   have:(l.findIdx? fun y=>x == y)=none:=by
    rw[List.findIdx?_eq_none_iff]
    intro y hy
    obtain⟨j,hj,rfl⟩:=List.getElem_of_mem hy
    simpa using hall j hj hj
   rw[this]
   rfl
theorem rv (x:Bool) (l:List Bool) (h:Hd) (hh:h.Ok l.length) (hl:l.length≤140737488355328) :
 af Tryz.prog 132 [h.v l.length,.bool x] (fun w=>ai w h.a (l.map Value.bool)) (fun v F=>v = .bool (l.any fun y=>x == y)):=by
 have hi:=ua x l h hh hl
 have hv:=dT l fun y=>x == y
 generalize ek (l.findIdx? fun y=>x == y)=j at *
 refine af.aG ae Tryz.func132 rfl (by decide) (n:=Tryz.f132.ntmps - 2) rfl rfl fun w0 av=>?_
 conv=>whnf
 repeat (refine aa.of ?_;conv=>whnf)
 refine aw.val hi (fun w hw=>hw) (fun v D hv=>?_)
 subst hv
 conv=>whnf
 repeat (refine aa.of ?_;conv=>whnf)
 exact⟨_,ax.refl _,by rw[← hv,aD]⟩
theorem uM (x:Int) (l:List Int) (h:Hd) (hh:h.Ok l.length) (hl:l.length≤140737488355328) :
 af Tryz.prog 197 [h.v l.length,.int .i64 x] (fun w=>ai w h.a (l.map bH)) (fun v F=>v = .int .i64 (ek (l.findIdx? fun y=>x == y))):=by
 refine af.aG ae Tryz.func197 rfl (by decide) (n:=Tryz.f197.ntmps - 2) rfl rfl fun w0 av=>?_
 conv=>whnf
 refine az.loop ae (ι:=Nat) ([5]++List.range' 8 11) (fun k=>k≤l.length∧∀ j (hj:j<l.length),j<k→(x == l[j])=false)
  (fun x=>[(8,.v (.int .i64 (x:Int)))]) (fun _=>[]) (fun _=>⟨fun w=>ai w h.a (l.map bH),[]⟩)
  (fun x=>l.length - x) 0 ⟨Nat.zero_le _,fun j hj h=>by omega⟩ ?_ rfl (ax.refl _) fun i hi=>?_
 · conv=>whnf
   repeat (first | exact au.nil | refine au.any ?_ | refine au.cons ?_)
 obtain⟨hi,hall⟩:=hi
 conv=>whnf
 refine bF.split (fun hlt=>?_) (fun hlt=>?_)
 · have hlt':i<l.length:=by
    simp only[ao,decide_eq_true_eq] at hlt
    omega
   conv=>whnf
   repeat (refine aa.of ?_;conv=>whnf)
   refine ar.aj (ak.index ae (t:=89) rfl rfl rfl (by omega) (by omega) hh.nil fun ad had=>?_)
   conv=>whnf
   repeat (refine aa.of ?_;conv=>whnf)
   refine ar.aj (ak.aH ae (t:=3) rfl rfl (ad:=ad) (k:=i) (L:=l.map bH) (v:=bH l[i]) (.fact fun w hw=>had ▸ hw) (fun hs=>by rw[Nat.mul_one];rfl) (by rw[List.getElem?_map,List.getElem?_eq_getElem hlt'];rfl) ?_)
   conv=>whnf
   repeat (refine aa.of ?_;conv=>whnf)
   rw[aA]
   generalize hq:(x == l[i])=q
   cases q
   · conv=>whnf
     repeat (refine aa.of ?_;conv=>whnf)
     refine⟨i+1,⟨⟨hlt',fun j hj h=>?_⟩,by dsimp only;omega⟩,?_,?_,ax.refl _⟩
     · rcases Nat.lt_or_eq_of_le (Nat.lt_succ_iff.1 h) with h5 | h5
       · exact hall j hj h5
       · subst h5
         exact hq
     · conv=>whnf
       refine⟨?_,rfl⟩
       repeat (first | exact au.nil | refine au.any ?_ | refine au.cons ?_ | refine au.eq (by rw[wrap_i64 (by omega)];rfl) ?_)
     · conv=>whnf
       exact trivial
   · conv=>whnf
     repeat (refine aa.of ?_;conv=>whnf)
     refine⟨_,ax.refl _,?_⟩
     have:(l.findIdx? fun y=>x == y)=some i:=by
      rw[List.findIdx?_eq_some_iff_getElem]
      exact⟨hlt',hq,fun j hj=>by simpa using hall j (by omega) hj⟩
     rw[this]
     rfl
 · have hie:i=l.length:=by
    simp only[ao,decide_eq_false_iff_not] at hlt
    omega
   subst hie
   conv=>whnf
   repeat (refine aa.of ?_;conv=>whnf)
   refine⟨_,ax.refl _,?_⟩
   have:(l.findIdx? fun y=>x == y)=none:=by
    rw[List.findIdx?_eq_none_iff]
    intro y hy
    obtain⟨j,hj,rfl⟩:=List.getElem_of_mem hy
    simpa using hall j hj hj
   rw[this]
   rfl
theorem rk (x:Int) (l:List Int) (h:Hd) (hh:h.Ok l.length) (hl:l.length≤140737488355328) :
 af Tryz.prog 120 [h.v l.length,.int .i64 x] (fun w=>ai w h.a (l.map bH)) (fun v F=>v = .bool (l.any fun y=>x == y)):=by
 have hi:=uM x l h hh hl
 have hv:=dT l fun y=>x == y
 generalize ek (l.findIdx? fun y=>x == y)=j at *
 refine af.aG ae Tryz.func120 rfl (by decide) (n:=Tryz.f120.ntmps - 2) rfl rfl fun w0 av=>?_
 conv=>whnf
 repeat (refine aa.of ?_;conv=>whnf)
 refine aw.val hi (fun w hw=>hw) (fun v D hv=>?_)
 subst hv
 conv=>whnf
 repeat (refine aa.of ?_;conv=>whnf)
 exact⟨_,ax.refl _,by rw[← hv,aD]⟩
def CF (l:List Gr) (k i:Nat):Bool:=aR l[k]!.frame l[i]!.frame&&(aR l[k]!.grantee l[i]!.owner&&pV l[k]!.rights l[i]!.rights)
def gO (l:List Gr) (s:List Bool) (i:Nat):Nat→Bool
 | 0=>aR l[i]!.owner 4
 | k+1=>gO l s i k||((s.set i (gO l s i k))[k]! && CF l k i)
def uG (l:List Gr) (x:List Bool×Bool) (i:Nat):List Bool×Bool:=if x.1[i]! then x else (x.1.set i (gO l x.1 i l.length),x.2||gO l x.1 i l.length)
def fe (l:List Gr) (s:List Bool):Nat→List Bool×Bool
 | 0=>(s,false)
 | i+1=>uG l (fe l s i) i
def pT (l:List Gr):Nat→List Bool→List Bool
 | 0,s=>s
 | f+1,s=>if (fe l s l.length).2 then pT l f (fe l s l.length).1 else (fe l s l.length).1
def dS (l:List Gr):List Bool:=pT l (l.length+1) (List.replicate l.length false)
theorem eN (l:List Gr) (s:List Bool) : ∀ i,(fe l s i).1.length=s.length
 | 0=>rfl
 | i+1=>by
  simp only[fe,uG]
  split
  · exact eN l s i
  · rw[List.length_set,eN l s i]
theorem count_set {s:List Bool} {i:Nat} (h:i<s.length) (hf:s[i]! = false) (v:Bool):(s.set i v).count false+(if v then 1 else 0)=s.count false:=by
 rw[bn h] at hf
 have:=List.count_set (a:=v) (b:=false) h
 rw[hf] at this
 have hp:0<s.count false:=List.count_pos_iff.2 (hf ▸ List.getElem_mem h)
 cases v<;>simp at this ⊢<;>omega
theorem j8 (l:List Gr) (s:List Bool) (hs:s.length=l.length) : ∀ i,i≤l.length→(fe l s i).1.count false+(if (fe l s i).2 then 1 else 0)≤s.count false
 | 0,_=>by simp[fe]
 | i+1,hi=>by
  have ih:=j8 l s hs i (by omega)
  have hl:=eN l s i
  simp only[fe,uG]
  split
  · exact ih
  · rename_i hf
    have:=count_set (s:=(fe l s i).1) (i:=i) (by omega) (by simpa using hf) (gO l (fe l s i).1 i l.length)
    dsimp only
    generalize gO l (fe l s i).1 i l.length=v at *
    generalize (fe l s i).2=u at *
    cases u<;>cases v<;>simp at this ih ⊢<;>omega
theorem lq (s:List Bool) (i:Nat) (v:Bool) (h:i<s.length):laid (s.map Value.bool) i [.bool v]=(s.set i v).map Value.bool:=by
 unfold laid
 rw[List.map_set,List.set_eq_take_append_cons_drop,if_pos (by simpa using h)]
 simp
theorem vU (l:List Gr) (h:Hd) (hh:h.Ok l.length) (hl:l.length≤1000000) :
 af Tryz.prog 194 [h.v l.length] (fun w=>ai w h.a (l.flatMap bM)) (fun v F=>∃ k:Hd,v=k.v l.length∧k.Ok l.length∧F=⟨fun w=>ai w k.a ((dS l).map Value.bool),[]⟩):=by
 refine af.aG ae Tryz.func194 rfl (by decide) (n:=Tryz.f194.ntmps - 1) rfl rfl fun w0 av=>?_
 conv=>whnf
 repeat (refine aa.of ?_;conv=>whnf)
 refine ar.tz ae (t:=273) rfl rfl rfl l.length rfl rfl (by decide) rfl hl (by simp;omega) fun bb=>?_
 have hrow:(List.replicate l.length ([.bool false]:List Value)).flatten=(List.replicate l.length false).map Value.bool:=by
  induction l.length with
  | zero=>rfl
  | succ n ih=>rw[List.replicate_succ,List.flatten_cons,ih];rfl
 conv=>whnf
 repeat (refine aa.of ?_;conv=>whnf)
 refine az.loop ae (ι:=List Bool×Bool×Nat) ([4,5,6,7,8]++List.range' 12 67) (fun x=>x.1.length=l.length∧(if x.2.1 then x.1.count false<x.2.2∧pT l x.2.2 x.1=dS l else x.1=dS l))
  (fun x=>[(4,.v (.bool x.2.1))]) (fun _=>[]) (fun x=>⟨fun w=>ai w h.a (l.flatMap bM),[(bb,Row.c (x.1.map Value.bool))]⟩)
  (fun x=>if x.2.1 then x.1.count false+1 else 0) (List.replicate l.length false,true,l.length+1) ⟨by simp,by simp[dS]⟩ ?_ rfl (ax.of_le ⟨by rw[← hrow];simp,fun w hw=>hw⟩) fun x hx=>?_
 · conv=>whnf
   repeat (first | exact au.nil | refine au.any ?_ | refine au.cons ?_)
 obtain⟨s,ag,f⟩:=x
 obtain⟨hsl,hx⟩:=hx
 dsimp only at hsl hx ⊢
 conv=>whnf
 repeat (refine aa.of ?_;conv=>whnf)
 cases ag
 · conv=>whnf
   repeat (refine aa.of ?_;conv=>whnf)
   have hx:s=dS l:=hx
   subst hx
   refine⟨⟨fun w=>ai w (some ⟨bb,0,none⟩) ((dS l).map Value.bool),[]⟩,?_,⟨some ⟨bb,0,none⟩,l.length⟩,rfl,⟨fun h=>(by cases h),Nat.le_refl _⟩,rfl⟩
   exact ax.trans (G:=⟨fun w=>ai w h.a (l.flatMap bM),[] ++ [(bb,Row.c ((dS l).map Value.bool))]⟩) (ax.of_le ⟨by simp,fun w hw=>hw⟩) (ax.trans ax.share1 (ax.imp fun w hw=>hw.2))
 obtain⟨hc,hG⟩:s.count false<f∧pT l f s=dS l:=by simpa using hx
 conv=>whnf
 repeat (refine aa.of ?_;conv=>whnf)
 refine az.loop ae (ι:=Nat×List Bool×Bool) ([4,5,6,7,8]++List.range' 15 64) (fun x=>x.1≤l.length∧x.2=fe l s x.1)
  (fun x=>[(4,.v (.bool x.2.2)),(15,.v (.int .i64 (x.1:Int)))]) (fun _=>[]) (fun x=>⟨fun w=>ai w h.a (l.flatMap bM),[(bb,Row.c (x.2.1.map Value.bool))]⟩)
  (fun x=>l.length - x.1) (0,s,false) ⟨Nat.zero_le _,rfl⟩ ?_ rfl (ax.refl _) fun x hx=>?_
 · conv=>whnf
   repeat (first | exact au.nil | refine au.any ?_ | refine au.cons ?_)
 obtain⟨i,S,u⟩:=x
 obtain⟨hi,hS⟩:=hx
 dsimp only at hi hS ⊢
 conv=>whnf
 repeat (refine aa.of ?_;conv=>whnf)
 refine bF.split (fun hlt=>?_) (fun hlt=>?_)
 · have hlt':i<l.length:=by
    simp only[ao,decide_eq_true_eq] at hlt
    omega
   have hSl:=eN l s i
   have hnx:fe l s (i+1)=uG l (fe l s i) i:=rfl
   rw[← hS] at hSl hnx
   unfold uG at hnx
   dsimp only at hSl hnx
   have hSi:i<S.length:=by omega
   have hbi:S[i]! = S[i]:=bn hSi
   conv=>whnf
   repeat (refine aa.of ?_;conv=>whnf)
   refine ar.aj (ak.index ae (t:=86) rfl rfl rfl (by omega) (by omega) hh.nil fun ad had=>?_)
   conv=>whnf
   repeat (refine aa.of ?_;conv=>whnf)
   refine ar.aj (ak.aQ ae (t:=163) rfl rfl (ad:=ad) (k:=i*4) (L:=l.flatMap bM) (m:=bM l[i]) (.fact fun w hw=>had ▸ hw) (by simp) (a8 (cf:=bM) (z:=4) (fun _=>rfl) hlt') rfl ?_)
   conv=>whnf
   repeat (refine aa.of ?_;conv=>whnf)
   intro b6
   conv=>whnf
   repeat (refine aa.of ?_;conv=>whnf)
   refine ar.aj (ak.index ae (t:=273) rfl rfl rfl (by omega) (by omega) (fun h=>by cases h) fun ad2 had2=>?_)
   obtain rfl:(⟨bb,0,none⟩:Addr)=ad2:=Option.some.inj had2
   conv=>whnf
   repeat (refine aa.of ?_;conv=>whnf)
   refine ar.aj (ak.aH ae (t:=4) rfl rfl (ad:=⟨bb,0,none⟩) (k:=i) (L:=S.map Value.bool) (v:=.bool S[i]) (aK.row (by simp)) (fun hs=>by rw[Nat.mul_one];rfl) (by rw[List.getElem?_map,List.getElem?_eq_getElem hSi];rfl) ?_)
   conv=>whnf
   repeat (refine aa.of ?_;conv=>whnf)
   generalize hq:S[i]=q at *
   cases q
   rotate_left
   · conv=>whnf
     repeat (refine aa.of ?_;conv=>whnf)
     refine⟨(i+1,S,u),⟨⟨hlt',by rw[hnx,hbi];rfl⟩,by dsimp only;omega⟩,?_,?_,ax.refl _⟩
     · conv=>whnf
       refine⟨?_,rfl⟩
       repeat (first | exact au.nil | refine au.any ?_ | refine au.cons ?_ | refine au.eq (by rw[wrap_i64 (by omega)];rfl) ?_)
     · conv=>whnf
       exact trivial
   conv=>whnf
   repeat (refine aa.of ?_;conv=>whnf)
   refine ar.aj (ak.index ae (t:=273) rfl rfl rfl (by omega) (by omega) (fun h=>by cases h) fun ad3 had3=>?_)
   obtain rfl:(⟨bb,0,none⟩:Addr)=ad3:=Option.some.inj had3
   conv=>whnf
   repeat (refine aa.of ?_;conv=>whnf)
   refine aP.cO ae (t:=4) rfl (r1:=[]) (r2:=[]) (b:=bb) (k:=i) (C:=S.map Value.bool) (v:=.bool (aR l[i].owner 4)) (by show(Addr.add ⟨bb,0,none⟩ (i*1))=_;rw[Addr.bE,Nat.mul_one,Nat.zero_add]) rfl (by simp[Value.cells,a7]) (by simp;omega) ?_
   have hvc : ∀ v:Bool,laid (S.map Value.bool) i (Value.bool v).cells.toList=(S.set i v).map Value.bool:=fun v=>lq S i v hSi
   rw[hvc]
   conv=>whnf
   repeat (refine aa.of ?_;conv=>whnf)
   have hw0:gO l S i 0=aR l[i].owner 4:=by
    unfold gO
    rw[bn hlt']
   rw[← hw0]
   refine az.loop ae (ι:=Nat×Bool) ([7,8]++List.range' 32 40) (fun x=>x.1≤l.length∧x.2=gO l S i x.1)
    (fun x=>[(32,.v (.int .i64 (x.1:Int)))]) (fun _=>[bM l[i]]) (fun x=>⟨fun w=>ai w h.a (l.flatMap bM),[(bb,Row.c ((S.set i x.2).map Value.bool))]⟩)
    (fun x=>l.length - x.1) (0,gO l S i 0) ⟨Nat.zero_le _,rfl⟩ ?_ rfl (ax.of_le ⟨by simp,fun w hw=>hw⟩) fun x hx=>?_
   · conv=>whnf
     repeat (first | exact au.nil | refine au.any ?_ | refine au.cons ?_)
   obtain⟨k,v⟩:=x
   obtain⟨hk,hv⟩:=hx
   dsimp only at hk hv ⊢
   conv=>whnf
   repeat (refine aa.of ?_;conv=>whnf)
   refine bF.split (fun hkt=>?_) (fun hkt=>?_)
   · have hkt':k<l.length:=by
      simp only[ao,decide_eq_true_eq] at hkt
      omega
     have hvn:gO l S i (k+1)=(v||((S.set i v)[k]! && (aR l[k].frame l[i].frame&&(aR l[k].grantee l[i].owner&&pV l[k].rights l[i].rights)))):=by
      rw[hv]
      conv=>lhs;unfold gO
      unfold CF
      rw[bn hkt',bn hlt']
     have hsk:k<(S.set i v).length:=by rw[List.length_set];omega
     have hsi:i<(S.set i v).length:=by rw[List.length_set];omega
     have hgi:=mo l[k].rights l[i].rights
     rw[bn hsk] at hvn
     generalize pV l[k].rights l[i].rights=q5 at *
     have hii:(S.set i v)[i]=v:=by simp
     conv=>whnf
     repeat (refine aa.of ?_;conv=>whnf)
     refine ar.aj (ak.index ae (t:=86) rfl rfl rfl (by omega) (by omega) hh.nil fun ad4 had4=>?_)
     conv=>whnf
     repeat (refine aa.of ?_;conv=>whnf)
     refine ar.aj (ak.aQ ae (t:=163) rfl rfl (ad:=ad4) (k:=k*4) (L:=l.flatMap bM) (m:=bM l[k]) (.fact fun w hw=>had4 ▸ hw) (by simp) (a8 (cf:=bM) (z:=4) (fun _=>rfl) hkt') rfl ?_)
     conv=>whnf
     repeat (refine aa.of ?_;conv=>whnf)
     intro b8
     conv=>whnf
     repeat (refine aa.of ?_;conv=>whnf)
     refine ar.aj (ak.index ae (t:=273) rfl rfl rfl (by omega) (by omega) (fun h=>by cases h) fun ad5 had5=>?_)
     obtain rfl:(⟨bb,0,none⟩:Addr)=ad5:=Option.some.inj had5
     conv=>whnf
     repeat (refine aa.of ?_;conv=>whnf)
     refine ar.aj (ak.aH ae (t:=4) rfl rfl (ad:=⟨bb,0,none⟩) (k:=i) (L:=(S.set i v).map Value.bool) (v:=.bool v) (aK.row (by simp)) (fun hs=>by rw[Nat.mul_one];rfl) (by rw[List.getElem?_map,List.getElem?_eq_getElem hsi,hii];rfl) ?_)
     have hset : ∀ x:Bool,laid ((S.set i v).map Value.bool) i (Value.bool x).cells.toList=(S.set i x).map Value.bool:=fun x=>by
      have:=lq (S.set i v) i x hsi
      rw[List.set_set] at this
      exact this
     have hend : ∀ x:Bool,gO l S i (k+1)=x→(⟨k+1,x⟩:Nat×Bool).2=gO l S i (k+1):=fun x hx=>hx.symm
     generalize hsk5:(S.set i v)[k]=sk at *
     generalize ht1:aR l[k].frame l[i].frame=t1 at hvn
     generalize ht2:aR l[k].grantee l[i].owner=t2 at hvn
     clear hv
     have hc1:((S.set i v).map Value.bool)[k]? = some (.bool sk):=by rw[List.getElem?_map,List.getElem?_eq_getElem hsk,hsk5];rfl
     generalize (S.set i v)=Sv at *
     cases v
     case' false=>
      conv=>whnf
      repeat (refine aa.of ?_;conv=>whnf)
      refine ar.aj (ak.index ae (t:=273) rfl rfl rfl (by omega) (by omega) (fun h=>by cases h) fun ad6 had6=>?_)
      obtain rfl:(⟨bb,0,none⟩:Addr)=ad6:=Option.some.inj had6
      conv=>whnf
      repeat (refine aa.of ?_;conv=>whnf)
      refine ar.aj (ak.aH ae (t:=4) rfl rfl (ad:=⟨bb,0,none⟩) (k:=k) (L:=Sv.map Value.bool) (v:=.bool sk) (aK.row (by simp)) (fun hs=>by rw[Nat.mul_one];rfl) hc1 ?_)
      cases sk
      case' true=>
       conv=>whnf
       repeat (refine aa.of ?_;conv=>whnf)
       rw[ht1]
       cases t1
       case' true=>
        conv=>whnf
        repeat (refine aa.of ?_;conv=>whnf)
        rw[ht2]
        cases t2
        case' true=>
         conv=>whnf
         repeat (refine aa.of ?_;conv=>whnf)
         refine aw.val hgi (fun w hw=>trivial) (fun v D hv=>?_)
         subst hv
     all_goals
      conv=>whnf
      repeat (refine aa.of ?_;conv=>whnf)
      refine ar.aj (ak.index ae (t:=273) rfl rfl rfl (by omega) (by omega) (fun h=>by cases h) fun ad7 had7=>?_)
      obtain rfl:(⟨bb,0,none⟩:Addr)=ad7:=Option.some.inj had7
      conv=>whnf
      repeat (refine aa.of ?_;conv=>whnf)
      refine aP.cO ae (t:=4) rfl (r1:=[]) (r2:=[]) (b:=bb) (k:=i) (C:=Sv.map Value.bool) (by show(Addr.add ⟨bb,0,none⟩ (i*1))=_;rw[Addr.bE,Nat.mul_one,Nat.zero_add]) rfl (by simp[Value.cells,a7]) (by simp;omega) ?_
      rw[hset]
      conv=>whnf
      repeat (refine aa.of ?_;conv=>whnf)
      refine⟨(k+1,_),⟨⟨hkt',hend _ (by rw[hvn];rfl)⟩,by dsimp only;omega⟩,?_,?_,ax.refl _⟩
      · conv=>whnf
        refine⟨?_,rfl⟩
        repeat (first | exact au.nil | refine au.any ?_ | refine au.cons ?_ | refine au.eq (by rw[wrap_i64 (by omega)];rfl) ?_)
      · conv=>whnf
        exact⟨⟨rfl,rfl⟩,trivial⟩
   · have hke:k=l.length:=by
      simp only[ao,decide_eq_false_iff_not] at hkt
      omega
     subst hke
     rw[← hv,hbi] at hnx
     have hsi:i<(S.set i v).length:=by rw[List.length_set];omega
     have hii:(S.set i v)[i]=v:=by simp
     have hci:((S.set i v).map Value.bool)[i]? = some (.bool v):=by rw[List.getElem?_map,List.getElem?_eq_getElem hsi,hii];rfl
     have hend:(S.set i v,u||v)=fe l s (i+1):=by rw[hnx];rfl
     clear hv
     generalize S.set i v=Sv at *
     conv=>whnf
     repeat (refine aa.of ?_;conv=>whnf)
     cases u
     case' false=>
      conv=>whnf
      repeat (refine aa.of ?_;conv=>whnf)
      refine ar.aj (ak.index ae (t:=273) rfl rfl rfl (by omega) (by omega) (fun h=>by cases h) fun ad6 had6=>?_)
      obtain rfl:(⟨bb,0,none⟩:Addr)=ad6:=Option.some.inj had6
      conv=>whnf
      repeat (refine aa.of ?_;conv=>whnf)
      refine ar.aj (ak.aH ae (t:=4) rfl rfl (ad:=⟨bb,0,none⟩) (k:=i) (L:=Sv.map Value.bool) (v:=.bool v) (aK.row (by simp)) (fun hs=>by rw[Nat.mul_one];rfl) hci ?_)
     all_goals
      conv=>whnf
      repeat (refine aa.of ?_;conv=>whnf)
      refine⟨(i+1,Sv,_),⟨⟨hlt',hend⟩,by dsimp only;omega⟩,?_,?_,ax.refl _⟩
      · conv=>whnf
        refine⟨?_,rfl⟩
        repeat (first | exact au.nil | refine au.any ?_ | refine au.cons ?_ | refine au.eq (by rw[wrap_i64 (by omega)];rfl) ?_)
      · conv=>whnf
        exact trivial
 · have hie:i=l.length:=by
    simp only[ao,decide_eq_false_iff_not] at hlt
    omega
   subst hie
   have hcn:=j8 l s hsl l.length (Nat.le_refl _)
   have hln:=eN l s l.length
   have hGf : ∀ g,f=g+1→(if (fe l s l.length).2 then pT l g (fe l s l.length).1 else (fe l s l.length).1)=dS l:=fun g hg=>by
    rw[← hG,hg]
    rfl
   rw[← hS] at hcn hln hGf
   dsimp only at hcn hln hGf ⊢
   obtain⟨g,rfl⟩ : ∃ g,f=g+1:=⟨f - 1,by omega⟩
   have hGf:=hGf g rfl
   conv=>whnf
   repeat (refine aa.of ?_;conv=>whnf)
   refine⟨(S,u,g),⟨⟨by rw[hln];exact hsl,?_⟩,?_⟩,?_,?_,ax.refl _⟩
   · cases u
     · simpa using hGf
     · simp at hcn hGf ⊢
       exact⟨by omega,hGf⟩
   · cases u<;>simp at hcn ⊢
     omega
   · conv=>whnf
     refine⟨?_,rfl⟩
     repeat (first | exact au.nil | refine au.any ?_ | refine au.cons ?_)
   · conv=>whnf
     exact trivial
theorem uK (l:List Gr) : ∀ (f:Nat) (s:List Bool),(pT l f s).length=s.length
 | 0,s=>rfl
 | f+1,s=>by
  simp only[pT]
  split
  · rw[uK l f,eN]
  · exact eN l s _
theorem oO (l:List Gr):(dS l).length=l.length:=by
 unfold dS
 rw[uK,List.length_replicate]
def i_ (l:List Gr) (j:Nat):Bool:=xp l[j]! && decide (0<j→dN l[j - 1]!.frame l[j]!.frame l[j - 1]!.grantee l[j]!.grantee<0)
theorem qD (l:List Gr) (h:Hd) (hh:h.Ok l.length) (hl:l.length≤1000000) :
 af Tryz.prog 112 [h.v l.length] (fun w=>ai w h.a (l.flatMap bM)) (fun v F=>v = .bool (allI l.length (i_ l)&&(decide (l.length≤200) && !((dS l).any fun y=>false == y)))):=by
 refine af.aG ae Tryz.func112 rfl (by decide) (n:=Tryz.f112.ntmps - 1) rfl rfl fun w0 av=>?_
 conv=>whnf
 repeat (refine aa.of ?_;conv=>whnf)
 refine az.loop ae (ι:=Nat) ([3,4]++List.range' 7 32) (fun x=>x≤l.length∧∀ j,j<x→i_ l j=true)
  (fun x=>[(7,.v (.int .i64 (x:Int)))]) (fun _=>[]) (fun _=>⟨fun w=>ai w h.a (l.flatMap bM),[]⟩)
  (fun x=>l.length - x) 0 ⟨Nat.zero_le _,fun j h=>by omega⟩ ?_ rfl (ax.of_le ⟨by simp[Value.cells],fun w hw=>hw⟩) fun i hi=>?_
 · conv=>whnf
   repeat (first | exact au.nil | refine au.any ?_ | refine au.cons ?_)
 obtain⟨hi,hall⟩:=hi
 conv=>whnf
 repeat (refine aa.of ?_;conv=>whnf)
 refine bF.split (fun hlt=>?_) (fun hlt=>?_)
 · have hlt':i<l.length:=by
    simp only[ao,decide_eq_true_eq] at hlt
    omega
   have hok:i_ l i=(xp l[i]&&decide (0<i→dN l[i - 1]!.frame l[i].frame l[i - 1]!.grantee l[i].grantee<0)):=by
    unfold i_
    rw[bn hlt']
   have hnext:i_ l i=true→∀ j,j<i+1→i_ l j=true:=fun hs j hj=>by
    rcases Nat.lt_or_eq_of_le (Nat.lt_succ_iff.1 hj) with h5 | h5
    · exact hall j h5
    · exact h5 ▸ hs
   have hq1:=oS l[i]
   obtain⟨q1,heq1⟩ : ∃ q,q=xp l[i]:=⟨_,rfl⟩
   rw[← heq1] at hq1
   conv=>whnf
   repeat (refine aa.of ?_;conv=>whnf)
   refine ar.aj (ak.index ae (t:=86) rfl rfl rfl (by first | omega) (by first | omega) hh.nil fun ad had=>?_)
   conv=>whnf
   repeat (refine aa.of ?_;conv=>whnf)
   refine ar.aj (ak.aQ ae (t:=163) rfl rfl (ad:=ad) (k:=i*4) (L:=l.flatMap bM) (m:=bM l[i]) (.fact fun w hw=>had ▸ hw) (by simp) (a8 (cf:=bM) (z:=4) (fun _=>rfl) hlt') rfl ?_)
   conv=>whnf
   repeat (refine aa.of ?_;conv=>whnf)
   intro b1
   conv=>whnf
   repeat (refine aa.of ?_;conv=>whnf)
   refine az.draw ae mixed rfl rfl ?_
   conv=>whnf
   rcases Nat.eq_zero_or_pos i with h0 | h0
   · have hg:gY (i:Int) 0=false:=by simp[aB];omega
     repeat' (first
      | (rw[hg];conv=>whnf)
      | (refine aw.val hq1 (fun w hw=>trivial) (fun v D hv=>?_);subst hv;conv=>whnf)
      | (split<;>conv=>whnf))
     all_goals first
      | (refine⟨_,ax.refl _,?_⟩;rw[aJ hlt' (by rw[hok];((try subst heq1);(try subst heq2);(try subst heq3);simp only[cond_true,cond_false,ao,aC,aB,aD,aA,aE,decide_eq_true_eq,decide_eq_false_iff_not,beq_iff_eq,bne_iff_ne,ne_eq,beq_eq_false_iff_ne,bne_eq_false_iff_eq,Bool.not_eq_true,Bool.not_eq_false,Bool.and_true,Bool.true_and,Bool.and_false,Bool.false_and,Bool.or_true,Bool.or_false,Bool.true_or,Bool.false_or,Bool.not_eq_true',Bool.not_eq_false',Bool.not_true,Bool.not_false] at *;first | (simp_all;done)))];first | done | rfl)
      | (
       refine⟨i+1,⟨⟨hlt',hnext (by rw[hok];((try subst heq1);(try subst heq2);(try subst heq3);simp only[cond_true,cond_false,ao,aC,aB,aD,aA,aE,decide_eq_true_eq,decide_eq_false_iff_not,beq_iff_eq,bne_iff_ne,ne_eq,beq_eq_false_iff_ne,bne_eq_false_iff_eq,Bool.not_eq_true,Bool.not_eq_false,Bool.and_true,Bool.true_and,Bool.and_false,Bool.false_and,Bool.or_true,Bool.or_false,Bool.true_or,Bool.false_or,Bool.not_eq_true',Bool.not_eq_false',Bool.not_true,Bool.not_false] at *;first | (simp_all;done)))⟩,by dsimp only;omega⟩,?_,?_,ax.refl _⟩;(conv=>whnf);refine⟨?_,rfl⟩;repeat (first | exact au.nil | refine au.any ?_ | refine au.cons ?_ | refine au.eq (by rw[wrap_i64 (by omega)];rfl) ?_)
       (conv=>whnf);exact trivial)
   · have hg:gY (i:Int) 0=true:=by simp[aB];omega
     have hj:i - 1<l.length:=by omega
     have hw1:IntKind.i64.wrap ((i:Int) - 1)=((i - 1:Nat):Int):=by
      rw[wrap_i64 (by omega)]
      omega
     try rw[bn hj] at hok
     repeat' (first
      | (rw[hg];conv=>whnf)
      | (refine aw.val hq1 (fun w hw=>trivial) (fun v D hv=>?_);subst hv;conv=>whnf)
      | (refine ak.index ae (t:=86) rfl rfl rfl (by first | omega) (by first | omega) hh.nil fun ad2 had2=>?_;conv=>whnf)
      | (refine ak.aQ ae (t:=163) rfl rfl (ad:=ad2) (k:=(i - 1)*4) (L:=l.flatMap bM) (m:=bM l[i - 1]) (.fact fun w hw=>had2 ▸ hw) (by rw[hw1];simp) (a8 (cf:=bM) (z:=4) (fun _=>rfl) hj) rfl ?_;conv=>whnf)
      | (refine aw.val (qp l[i - 1].owner l[i - 1].grantee l[i - 1].frame l[i - 1].rights l[i].owner l[i].grantee l[i].frame l[i].rights) (fun w hw=>trivial) (fun v D hv=>?_);subst hv;conv=>whnf)
      | (split<;>conv=>whnf))
     all_goals first
      | (refine⟨_,ax.refl _,?_⟩;rw[aJ hlt' (by rw[hok];((try subst heq1);(try subst heq2);(try subst heq3);simp only[cond_true,cond_false,ao,aC,aB,aD,aA,aE,decide_eq_true_eq,decide_eq_false_iff_not,beq_iff_eq,bne_iff_ne,ne_eq,beq_eq_false_iff_ne,bne_eq_false_iff_eq,Bool.not_eq_true,Bool.not_eq_false,Bool.and_true,Bool.true_and,Bool.and_false,Bool.false_and,Bool.or_true,Bool.or_false,Bool.true_or,Bool.false_or,Bool.not_eq_true',Bool.not_eq_false',Bool.not_true,Bool.not_false] at *;first | (simp_all;done)))];first | done | rfl)
      | (
       refine⟨i+1,⟨⟨hlt',hnext (by rw[hok];((try subst heq1);(try subst heq2);(try subst heq3);simp only[cond_true,cond_false,ao,aC,aB,aD,aA,aE,decide_eq_true_eq,decide_eq_false_iff_not,beq_iff_eq,bne_iff_ne,ne_eq,beq_eq_false_iff_ne,bne_eq_false_iff_eq,Bool.not_eq_true,Bool.not_eq_false,Bool.and_true,Bool.true_and,Bool.and_false,Bool.false_and,Bool.or_true,Bool.or_false,Bool.true_or,Bool.false_or,Bool.not_eq_true',Bool.not_eq_false',Bool.not_true,Bool.not_false] at *;first | (simp_all;done)))⟩,by dsimp only;omega⟩,?_,?_,ax.refl _⟩;(conv=>whnf);refine⟨?_,rfl⟩;repeat (first | exact au.nil | refine au.any ?_ | refine au.cons ?_ | refine au.eq (by rw[wrap_i64 (by omega)];rfl) ?_)
       (conv=>whnf);exact trivial)
 · have hie:i=l.length:=by
    simp only[ao,decide_eq_false_iff_not] at hlt
    omega
   subst hie
   conv=>whnf
   repeat (refine aa.of ?_;conv=>whnf)
   have hsu:=vU l h hh hl
   rw[aV hall,Bool.true_and]
   by_cases hn:l.length≤200
   · rw[show eW ((l.length:Nat):Int) 200=true by simp[aC];omega,decide_eq_true hn,Bool.true_and]
     conv=>whnf
     repeat (refine aa.of ?_;conv=>whnf)
     refine aw.pure hsu (fun w hw=>hw) (fun v D hv=>?_)
     obtain⟨k,rfl,hk,rfl⟩:=hv
     conv=>whnf
     repeat (refine aa.of ?_;conv=>whnf)
     have hsl:=oO l
     have hb:=rv false (dS l) k (by rw[hsl];exact hk) (by rw[hsl];omega)
     rw[hsl] at hb
     refine aw.val hb (fun w hw=>hw.2) (fun v D hv=>?_)
     subst hv
     conv=>whnf
     repeat (refine aa.of ?_;conv=>whnf)
     exact⟨_,ax.refl _,rfl⟩
   · rw[show eW ((l.length:Nat):Int) 200=false by simp[aC];omega,decide_eq_false hn]
     conv=>whnf
     repeat (refine aa.of ?_;conv=>whnf)
     exact⟨_,ax.refl _,rfl⟩
def iZ (t:Int):Bool:=dL t 2&&aR (Int.tmod t 2) 0
def B9 (t:Int):Bool:=dL t 1&&aR (Int.tmod t 2) 1
def cS (t op:Int):Bool:=if aR op 0 then iZ t else B9 t
theorem kM (t:Int):af Tryz.prog 228 [.int .i64 t] (fun _=>True) (fun v F=>v = .bool (iZ t)):=by
 refine af.aG ae Tryz.func228 rfl (by decide) (n:=Tryz.f228.ntmps - 1) rfl rfl fun w0 av=>?_
 conv=>whnf
 repeat (refine aa.of ?_;conv=>whnf)
 refine⟨_,ax.refl _,?_⟩
 unfold iZ
 cases dL t 2<;>rfl
theorem kH (t op:Int):af Tryz.prog 229 [.int .i64 t,.int .i64 op] (fun _=>True) (fun v F=>v = .bool (cS t op)):=by
 refine af.aG ae Tryz.func229 rfl (by decide) (n:=Tryz.f229.ntmps - 2) rfl rfl fun w0 av=>?_
 conv=>whnf
 repeat (refine aa.of ?_;conv=>whnf)
 refine bF.split (fun h=>?_) (fun h=>?_)
 all_goals
  conv=>whnf
  repeat (refine aa.of ?_;conv=>whnf)
  refine⟨_,ax.refl _,?_⟩
  unfold cS iZ B9
  rw[h]
 · cases dL t 2<;>rfl
 · cases dL t 1<;>rfl
theorem jx (t op:Int):af Tryz.prog 230 [.int .i64 t,.int .i64 op] (fun _=>True) (fun v F=>v = .bool (cS t op)):=by
 refine af.aG ae Tryz.func230 rfl (by decide) (n:=Tryz.f230.ntmps - 2) rfl rfl fun w0 av=>?_
 conv=>whnf
 repeat (refine aa.of ?_;conv=>whnf)
 refine bF.split (fun h=>?_) (fun h=>?_)
 all_goals
  conv=>whnf
  repeat (refine aa.of ?_;conv=>whnf)
  refine⟨_,ax.refl _,?_⟩
  unfold cS iZ B9
  rw[h]
 · cases dL t 2<;>rfl
 · cases dL t 1<;>rfl
structure lZ where
 opn:Bool
 tag:Int
 op:Int
 place:Int
 ch:Hd
 cn:Nat
 left:Int
 ltag:Int
 lans:Int
 lh:Hd
 ln:Nat
instance:Inhabited lZ:=⟨⟨false,0,0,0,Hd.nil,0,0,0,0,Hd.nil,0⟩⟩
def cE (x:lZ):List Value:=[.bool x.opn,.int .i64 x.tag,.int .i64 x.op,.int .i64 x.place,x.ch.v x.cn,.int .i64 x.left,.int .i64 x.ltag,.int .i64 x.lans,x.lh.v x.ln]
def xy (x:lZ):List Value:=[.bool x.opn,.int .i64 x.tag,.int .i64 x.op,.int .i64 x.place,x.ch.v x.cn,.int .i64 x.ltag,.int .i64 x.lans,x.lh.v x.ln]
def ed (T:Int→Bool) (dk:Bool) (x:lZ):Bool:=
 (aR x.ltag 0||T x.ltag)&&(if x.opn then T x.tag&&(dL x.tag x.ltag&&(!dk||(dL x.left 1&&eW x.left 3)))
  else (!dk||aR x.left 0)&&(aR x.tag 0&&(aR x.op 0&&(aR x.place 0&&decide (x.cn=0)))))
theorem uB (x:lZ):af Tryz.prog 178 [.agg ⟨cE x⟩] (fun _=>True) (fun v F=>v = .bool (ed iZ true x)):=by
 have h1:=kM x.ltag
 have h2:=kM x.tag
 unfold ed
 generalize iZ x.ltag=q1 at *
 generalize iZ x.tag=q2 at *
 refine af.aG ae Tryz.func178 rfl (by decide) (n:=Tryz.f178.ntmps - 1) rfl rfl fun w0 av=>?_
 conv=>whnf
 repeat (refine aa.of ?_;conv=>whnf)
 intro b1
 conv=>whnf
 repeat (refine aa.of ?_;conv=>whnf)
 repeat' (first
  | (refine aa.of ?_;conv=>whnf)
  | (refine aw.val h1 (fun w hw=>trivial) (fun v D hv=>?_);subst hv;conv=>whnf)
  | (refine aw.val h2 (fun w hw=>trivial) (fun v D hv=>?_);subst hv;conv=>whnf)
  | (cases q1<;>conv=>whnf)
  | (cases q2<;>conv=>whnf)
  | (split<;>conv=>whnf))
 all_goals refine⟨_,ax.refl _,?_⟩
 all_goals first | rfl | (congr 1;rw[Bool.eq_iff_iff];simp_all [aD,ao,aC,aB,aA,aE,and_assoc];done)
theorem mb (x:lZ) (op:Int):af Tryz.prog 183 [.agg ⟨xy x⟩,.int .i64 op] (fun _=>True) (fun v F=>v = .bool (ed (cS · op) false x)):=by
 have h1:=kH x.ltag op
 have h2:=kH x.tag op
 unfold ed
 dsimp only
 generalize cS x.ltag op=q1 at *
 generalize cS x.tag op=q2 at *
 refine af.aG ae Tryz.func183 rfl (by decide) (n:=Tryz.f183.ntmps - 2) rfl rfl fun w0 av=>?_
 conv=>whnf
 repeat (refine aa.of ?_;conv=>whnf)
 intro b1
 conv=>whnf
 repeat (refine aa.of ?_;conv=>whnf)
 repeat' (first
  | (refine aa.of ?_;conv=>whnf)
  | (refine aw.val h1 (fun w hw=>trivial) (fun v D hv=>?_);subst hv;conv=>whnf)
  | (refine aw.val h2 (fun w hw=>trivial) (fun v D hv=>?_);subst hv;conv=>whnf)
  | (cases q1<;>conv=>whnf)
  | (cases q2<;>conv=>whnf)
  | (split<;>conv=>whnf))
 all_goals refine⟨_,ax.refl _,?_⟩
 all_goals first | rfl | (congr 1;rw[Bool.eq_iff_iff];simp_all [aD,ao,aC,aB,aA,aE,and_assoc];done)
theorem jV (x:lZ) (op:Int):af Tryz.prog 184 [.agg ⟨xy x⟩,.int .i64 op] (fun _=>True) (fun v F=>v = .bool (ed (cS · op) false x)):=by
 have h1:=jx x.ltag op
 have h2:=jx x.tag op
 unfold ed
 dsimp only
 generalize cS x.ltag op=q1 at *
 generalize cS x.tag op=q2 at *
 refine af.aG ae Tryz.func184 rfl (by decide) (n:=Tryz.f184.ntmps - 2) rfl rfl fun w0 av=>?_
 conv=>whnf
 repeat (refine aa.of ?_;conv=>whnf)
 intro b1
 conv=>whnf
 repeat (refine aa.of ?_;conv=>whnf)
 repeat' (first
  | (refine aa.of ?_;conv=>whnf)
  | (refine aw.val h1 (fun w hw=>trivial) (fun v D hv=>?_);subst hv;conv=>whnf)
  | (refine aw.val h2 (fun w hw=>trivial) (fun v D hv=>?_);subst hv;conv=>whnf)
  | (cases q1<;>conv=>whnf)
  | (cases q2<;>conv=>whnf)
  | (split<;>conv=>whnf))
 all_goals refine⟨_,ax.refl _,?_⟩
 all_goals first | rfl | (congr 1;rw[Bool.eq_iff_iff];simp_all [aD,ao,aC,aB,aA,aE,and_assoc];done)
structure Bs where
 h:Hd
 n:Nat
instance:Inhabited Bs:=⟨⟨Hd.nil,0⟩⟩
def du (x:Bs):Value:=x.h.v x.n
theorem rI (x:Bs):a7 (du x)=true:=rfl
theorem wA (x:Bs):af Tryz.prog 173 [du x] (fun _=>True) (fun v F=>v = .bool (fw (x.n:Int) 128)):=by
 refine af.aG ae Tryz.func173 rfl (by decide) (n:=Tryz.f173.ntmps - 1) rfl rfl fun w0 av=>?_
 conv=>whnf
 repeat (refine aa.of ?_;conv=>whnf)
 exact⟨_,ax.refl _,rfl⟩
theorem tK (x:Bs):af Tryz.prog 179 [du x] (fun _=>True) (fun v F=>v = .bool (fw (x.n:Int) 128)):=by
 refine af.aG ae Tryz.func179 rfl (by decide) (n:=Tryz.f179.ntmps - 1) rfl rfl fun w0 av=>?_
 conv=>whnf
 repeat (refine aa.of ?_;conv=>whnf)
 exact⟨_,ax.refl _,rfl⟩
def dy (n:Nat) (l:List Bs):Bool:=decide (l.length=n) && !(l.any fun x=>fw (x.n:Int) 128)
theorem lE (l:List Bs) (h:Hd) (hh:h.Ok l.length) (hl:l.length≤140737488355328) :
 af Tryz.prog 103 [.agg ⟨[h.v l.length]⟩] (fun w=>ai w h.a (l.map du)) (fun v F=>v = .bool (dy 96 l)):=by
 have hc:=sL du rI 173 (fun _=>True) (fun x=>fw (x.n:Int) 128) l h hh hl (fun e _=>wA e)
 unfold dy
 generalize (l.any fun x=>fw (x.n:Int) 128)=q1 at *
 refine af.aG ae Tryz.func103 rfl (by decide) (n:=Tryz.f103.ntmps - 1) rfl rfl fun w0 av=>?_
 conv=>whnf
 repeat (refine aa.of ?_;conv=>whnf)
 intro b1
 conv=>whnf
 repeat (refine aa.of ?_;conv=>whnf)
 repeat' (first
  | (split<;>conv=>whnf)
  | (refine aw.val hc (fun w hw=>⟨hw,trivial⟩) (fun v D hv=>?_);subst hv;conv=>whnf))
 all_goals refine⟨_,ax.refl _,?_⟩
 all_goals first | rfl | (congr 1;rw[Bool.eq_iff_iff];simp_all [aD,ao,aC,aB,aA,aE,and_assoc];omega)
theorem pd (l:List Bs) (h:Hd) (hh:h.Ok l.length) (hl:l.length≤140737488355328) (x:lZ) :
 af Tryz.prog 105 [.agg ⟨h.v l.length::cE x⟩] (fun w=>ai w h.a (l.map du)) (fun v F=>v = .bool (dy 160 l&&ed iZ true x)):=by
 have hc:=sL du rI 179 (fun _=>True) (fun x=>fw (x.n:Int) 128) l h hh hl (fun e _=>tK e)
 have h2:=uB x
 unfold dy
 generalize (l.any fun x=>fw (x.n:Int) 128)=q1 at *
 generalize ed iZ true x=q2 at *
 refine af.aG ae Tryz.func105 rfl (by decide) (n:=Tryz.f105.ntmps - 1) rfl rfl fun w0 av=>?_
 conv=>whnf
 repeat (refine aa.of ?_;conv=>whnf)
 intro b1
 conv=>whnf
 repeat (refine aa.of ?_;conv=>whnf)
 repeat' (first
  | (split<;>conv=>whnf)
  | (refine aw.val hc (fun w hw=>⟨hw,trivial⟩) (fun v D hv=>?_);subst hv;conv=>whnf)
  | (refine aw.val h2 (fun w hw=>trivial) (fun v D hv=>?_);subst hv;conv=>whnf))
 all_goals refine⟨_,ax.refl _,?_⟩
 all_goals first | rfl | (congr 1;rw[Bool.eq_iff_iff];simp_all [aD,ao,aC,aB,aA,aE,and_assoc];done) | (congr 1;rw[Bool.eq_iff_iff];simp_all [aD,ao,aC,aB,aA,aE,and_assoc];omega)
structure Be where
 inp:Bs
 at':Int
 pause:Int
 got:Bs
 out:Bs
 co:lZ
 ci:lZ
instance:Inhabited Be:=⟨⟨default,0,0,default,default,default,default⟩⟩
def iz (x:Be):List Value:=du x.inp :: .int .i64 x.at' :: .int .i64 x.pause::du x.got::du x.out::(xy x.co++xy x.ci)
def oW (x:Be):Bool:=decide (x.inp.n≤4000∧0≤x.at'∧x.at'≤x.inp.n∧0≤x.pause∧x.pause<128∧x.got.n≤x.at'∧x.out.n≤100000)&&(ed (cS · 0) false x.co&&ed (cS · 1) false x.ci)
theorem lM (x:Be):af Tryz.prog 107 [.agg ⟨iz x⟩] (fun _=>True) (fun v F=>v = .bool (oW x)):=by
 have h1:=jV x.co 0
 have h2:=jV x.ci 1
 unfold oW
 generalize ed (cS · 0) false x.co=q1 at *
 generalize ed (cS · 1) false x.ci=q2 at *
 refine af.aG ae Tryz.func107 rfl (by decide) (n:=Tryz.f107.ntmps - 1) rfl rfl fun w0 av=>?_
 conv=>whnf
 repeat (refine aa.of ?_;conv=>whnf)
 refine ar.bQ fun b1=>?_
 conv=>whnf
 repeat (refine aa.of ?_;conv=>whnf)
 repeat' (first
  | (refine ar.aj (ak.aH ae rfl rfl (ad:=⟨b1,0,none⟩) (k:=_) (L:=iz x) (v:=_) (aK.row (by simp[Value.cells])) (fun _=>rfl) rfl ?_);conv=>whnf)
  | (refine ar.aj (ak.aQ ae rfl rfl (ad:=⟨b1,0,none⟩) (k:=_) (L:=iz x) (m:=_) (aK.row (by simp[Value.cells])) rfl rfl rfl ?_);conv=>whnf)
  | (refine aw.val h1 (fun w hw=>trivial) (fun v D hv=>?_);subst hv;conv=>whnf)
  | (refine aw.val h2 (fun w hw=>trivial) (fun v D hv=>?_);subst hv;conv=>whnf)
  | (split<;>conv=>whnf))
 all_goals refine⟨_,ax.refl _,?_⟩
 all_goals first | rfl | (congr 1;rw[Bool.eq_iff_iff];simp_all [aD,ao,aC,aB,aA,aE,and_assoc];done) | (congr 1;rw[Bool.eq_iff_iff];simp_all [aD,ao,aC,aB,aA,aE,and_assoc];omega) | (congr 1;rw[Bool.eq_iff_iff];(try cases q1)<;>(try cases q2)<;>(try cases q3)<;>(try simp_all [aD,ao,aC,aB,aA,aE,and_assoc])<;>(try omega);done)
theorem iF (a:Int):af Tryz.prog 180 [.int .i64 a] (fun _=>True) (fun v F=>v = .bool (decide (0≤a∧a≤1099511627776))):=by
 refine af.aG ae Tryz.func180 rfl (by decide) (n:=Tryz.f180.ntmps - 1) rfl rfl fun w0 av=>?_
 conv=>whnf
 repeat (refine aa.of ?_;conv=>whnf)
 exact⟨_,ax.refl _,by congr 1;rw[Bool.eq_iff_iff];simp[aD,aC]⟩
theorem jd (x:Bs):af Tryz.prog 181 [du x] (fun _=>True) (fun v F=>v = .bool (decide (1≤x.n∧x.n≤128))):=by
 refine af.aG ae Tryz.func181 rfl (by decide) (n:=Tryz.f181.ntmps - 1) rfl rfl fun w0 av=>?_
 conv=>whnf
 repeat (refine aa.of ?_;conv=>whnf)
 exact⟨_,ax.refl _,by congr 1;rw[Bool.eq_iff_iff];simp[aD,aC];omega⟩
theorem uz (x:Bs):af Tryz.prog 182 [du x] (fun _=>True) (fun v F=>v = .bool (!decide (1≤x.n∧x.n≤128))):=by
 have h1:=jd x
 generalize decide (1≤x.n∧x.n≤128)=q1 at *
 refine af.aG ae Tryz.func182 rfl (by decide) (n:=Tryz.f182.ntmps - 1) rfl rfl fun w0 av=>?_
 conv=>whnf
 repeat (refine aa.of ?_;conv=>whnf)
 refine aw.val h1 (fun w hw=>trivial) (fun v D hv=>?_)
 subst hv
 conv=>whnf
 repeat (refine aa.of ?_;conv=>whnf)
 exact⟨_,ax.refl _,rfl⟩
structure BU where
 due:Int
 data:Bs
instance:Inhabited BU:=⟨⟨0,default⟩⟩
def bX (x:BU):List Value:=[.int .i64 x.due,du x.data]
structure zY where
 pat:Bs
 now:Int
 sent:Int
 first:Int
 fh:Hd
 fly:List BU
 wh:Hd
 wait:List Bs
 co:lZ
 ci:lZ
def gp (x:zY):List Value:=du x.pat :: .int .i64 x.now :: .int .i64 x.sent :: .int .i64 x.first::x.fh.v x.fly.length::x.wh.v x.wait.length::(xy x.co++xy x.ci)
def jt (now:Int) (l:List BU) (j:Nat):Bool:=decide ((1≤l[j]!.data.n∧l[j]!.data.n≤128)∧now<l[j]!.due∧l[j]!.due≤IntKind.i64.wrap (now+8)∧(0<j→l[j - 1]!.due≤l[j]!.due))
def mi (a:Int):Bool:=decide (0≤a∧a≤1099511627776)
def pM (x:zY):Bool:=(decide (x.pat.n≤200)&&mi x.now&&mi x.sent&&mi x.first&&decide (x.fly.length≤400)&&decide (x.wait.length≤64)) &&
 (allI x.fly.length (jt x.now x.fly)&&(!(x.wait.any fun b=>!decide (1≤b.n∧b.n≤128))&&(ed (cS · 0) false x.co&&ed (cS · 1) false x.ci)))
theorem oE (x:zY) (hh:x.fh.Ok x.fly.length) (hl:x.fly.length≤140737488355328) (hwh:x.wh.Ok x.wait.length) (hwl:x.wait.length≤140737488355328) :
 af Tryz.prog 106 [.agg ⟨gp x⟩] (fun w=>ai w x.fh.a (x.fly.flatMap bX)∧ai w x.wh.a (x.wait.map du)) (fun v F=>v = .bool (pM x)):=by
 obtain⟨pat,now,sent,first,h,l,wh,wait,co,ci⟩:=x
 dsimp only at hh hl hwh hwl ⊢
 have h1:=mb co 0
 have h2:=mb ci 1
 have hn1:=iF now
 have hn2:=iF sent
 have hn3:=iF first
 have hc:=sL du rI 182 (fun _=>True) (fun b=>!decide (1≤b.n∧b.n≤128)) wait wh hwh hwl (fun e _=>uz e)
 unfold pM mi
 generalize (wait.any fun b=>!decide (1≤b.n∧b.n≤128))=q4 at *
 generalize ed (cS · 0) false co=q5 at *
 generalize ed (cS · 1) false ci=q6 at *
 obtain⟨n1,hm1⟩ : ∃ q,q=decide (0≤now∧now≤1099511627776):=⟨_,rfl⟩
 obtain⟨n2,hm2⟩ : ∃ q,q=decide (0≤sent∧sent≤1099511627776):=⟨_,rfl⟩
 obtain⟨n3,hm3⟩ : ∃ q,q=decide (0≤first∧first≤1099511627776):=⟨_,rfl⟩
 rw[← hm1] at hn1 ⊢
 rw[← hm2] at hn2 ⊢
 rw[← hm3] at hn3 ⊢
 clear hm1 hm2 hm3
 dsimp only
 refine af.aG ae Tryz.func106 rfl (by decide) (n:=Tryz.f106.ntmps - 1) rfl rfl fun w0 av=>?_
 conv=>whnf
 repeat (refine aa.of ?_;conv=>whnf)
 refine ar.bQ fun br=>?_
 conv=>whnf
 repeat (refine aa.of ?_;conv=>whnf)
 repeat' (first
  | (refine ar.aj (ak.aH ae rfl rfl (ad:=⟨br,0,none⟩) (k:=_) (L:=gp ⟨pat,now,sent,first,h,l,wh,wait,co,ci⟩) (v:=_) (aK.row (by simp[Value.cells])) (fun _=>rfl) rfl ?_);conv=>whnf)
  | (refine aw.val hn1 (fun w hw=>trivial) (fun v D hv=>?_);subst hv;conv=>whnf)
  | (refine aw.val hn2 (fun w hw=>trivial) (fun v D hv=>?_);subst hv;conv=>whnf)
  | (refine aw.val hn3 (fun w hw=>trivial) (fun v D hv=>?_);subst hv;conv=>whnf)
  | (split<;>conv=>whnf))
 all_goals try (refine⟨_,ax.refl _,?_⟩;congr 1;rw[Bool.eq_iff_iff];simp_all [aB];first | done | omega)
 have hpre:(decide (pat.n≤200)&&n1&&n2&&n3&&decide (l.length≤400)&&decide (wait.length≤64))=true:=by
  simp_all [aB]
  first | done | omega
 rw[hpre,Bool.true_and]
 refine az.loop ae (ι:=Nat) ([3,4]++List.range' 42 41) (fun x=>x≤l.length∧∀ j,j<x→jt now l j=true)
  (fun x=>[(42,.v (.int .i64 (x:Int)))]) (fun _=>[]) (fun _=>⟨fun w=>ai w h.a (l.flatMap bX)∧ai w wh.a (wait.map du),[(br,Row.c (gp ⟨pat,now,sent,first,h,l,wh,wait,co,ci⟩))]⟩)
  (fun x=>l.length - x) 0 ⟨Nat.zero_le _,fun j h=>by omega⟩ ?_ rfl (ax.of_le ⟨by simp[Value.cells],fun w hw=>hw⟩) fun i hi=>?_
 · conv=>whnf
   repeat (first | exact au.nil | refine au.any ?_ | refine au.cons ?_)
 obtain⟨hi,hall⟩:=hi
 conv=>whnf
 repeat (refine aa.of ?_;conv=>whnf)
 refine bF.split (fun hlt=>?_) (fun hlt=>?_)
 · have hlt':i<l.length:=by
    simp only[ao,decide_eq_true_eq] at hlt
    omega
   have hok:jt now l i=decide ((1≤l[i].data.n∧l[i].data.n≤128)∧now<l[i].due∧l[i].due≤IntKind.i64.wrap (now+8)∧(0<i→l[i - 1]!.due≤l[i].due)):=by
    unfold jt
    rw[bn hlt']
   have hnext:jt now l i=true→∀ j,j<i+1→jt now l j=true:=fun hs j hj=>by
    rcases Nat.lt_or_eq_of_le (Nat.lt_succ_iff.1 hj) with h5 | h5
    · exact hall j h5
    · exact h5 ▸ hs
   have hq1:=jd l[i].data
   obtain⟨q1,heq1⟩ : ∃ q,q=decide (1≤l[i].data.n∧l[i].data.n≤128):=⟨_,rfl⟩
   rw[← heq1] at hq1
   conv=>whnf
   repeat (refine aa.of ?_;conv=>whnf)
   refine ar.aj (ak.index ae (t:=103) rfl rfl rfl (by first | omega) (by first | (dsimp only;omega)) hh.nil fun ad had=>?_)
   conv=>whnf
   repeat (refine aa.of ?_;conv=>whnf)
   refine ar.aj (ak.aQ ae (t:=173) rfl rfl (ad:=ad) (k:=i*2) (L:=l.flatMap bX) (m:=bX l[i]) (.fact fun w hw=>had ▸ hw.1) (by simp) (a8 (cf:=bX) (z:=2) (fun _=>rfl) hlt') rfl ?_)
   conv=>whnf
   repeat (refine aa.of ?_;conv=>whnf)
   intro b1
   conv=>whnf
   repeat (refine aa.of ?_;conv=>whnf)
   refine az.draw ae mixed rfl rfl ?_
   conv=>whnf
   rcases Nat.eq_zero_or_pos i with h0 | h0
   · have hg:gY (i:Int) 0=false:=by simp[aB];omega
     repeat' (first
      | (rw[hg];conv=>whnf)
      | (refine ak.aH ae rfl rfl (ad:=⟨br,0,none⟩) (k:=_) (L:=gp ⟨pat,now,sent,first,h,l,wh,wait,co,ci⟩) (v:=_) (aK.row (by simp[Value.cells])) (fun _=>rfl) rfl ?_;conv=>whnf)
      | (refine aw.val hq1 (fun w hw=>trivial) (fun v D hv=>?_);subst hv;conv=>whnf)
      | (split<;>conv=>whnf))
     all_goals first
      | (refine⟨_,ax.refl _,?_⟩;rw[aJ hlt' (by rw[hok];((try subst heq1);(try subst heq2);(try subst heq3);simp only[cond_true,cond_false,ao,aC,aB,aD,aA,aE,decide_eq_true_eq,decide_eq_false_iff_not,beq_iff_eq,bne_iff_ne,ne_eq,beq_eq_false_iff_ne,bne_eq_false_iff_eq,Bool.not_eq_true,Bool.not_eq_false,Bool.and_true,Bool.true_and,Bool.and_false,Bool.false_and,Bool.or_true,Bool.or_false,Bool.true_or,Bool.false_or,Bool.not_eq_true',Bool.not_eq_false',Bool.not_true,Bool.not_false] at *;first | omega))];first | done | rfl)
      | (
       refine⟨i+1,⟨⟨hlt',hnext (by rw[hok];((try subst heq1);(try subst heq2);(try subst heq3);simp only[cond_true,cond_false,ao,aC,aB,aD,aA,aE,decide_eq_true_eq,decide_eq_false_iff_not,beq_iff_eq,bne_iff_ne,ne_eq,beq_eq_false_iff_ne,bne_eq_false_iff_eq,Bool.not_eq_true,Bool.not_eq_false,Bool.and_true,Bool.true_and,Bool.and_false,Bool.false_and,Bool.or_true,Bool.or_false,Bool.true_or,Bool.false_or,Bool.not_eq_true',Bool.not_eq_false',Bool.not_true,Bool.not_false] at *;first | omega))⟩,by dsimp only;omega⟩,?_,?_,ax.refl _⟩;(conv=>whnf);refine⟨?_,rfl⟩;repeat (first | exact au.nil | refine au.any ?_ | refine au.cons ?_ | refine au.eq (by rw[wrap_i64 (by omega)];rfl) ?_)
       (conv=>whnf);exact trivial)
   · have hg:gY (i:Int) 0=true:=by simp[aB];omega
     have hj:i - 1<l.length:=by omega
     have hw1:IntKind.i64.wrap ((i:Int) - 1)=((i - 1:Nat):Int):=by
      rw[wrap_i64 (by omega)]
      omega
     try rw[bn hj] at hok
     repeat' (first
      | (rw[hg];conv=>whnf)
      | (refine ak.aH ae rfl rfl (ad:=⟨br,0,none⟩) (k:=_) (L:=gp ⟨pat,now,sent,first,h,l,wh,wait,co,ci⟩) (v:=_) (aK.row (by simp[Value.cells])) (fun _=>rfl) rfl ?_;conv=>whnf)
      | (refine aw.val hq1 (fun w hw=>trivial) (fun v D hv=>?_);subst hv;conv=>whnf)
      | (refine ak.index ae (t:=103) rfl rfl rfl (by first | omega) (by first | (dsimp only;omega)) hh.nil fun ad2 had2=>?_;conv=>whnf)
      | (refine ak.aH ae (t:=3) rfl rfl (ad:=ad2) (k:=(i - 1)*2) (L:=l.flatMap bX) (v:=.int .i64 l[i - 1].due) (.fact fun w hw=>had2 ▸ hw.1) (fun hs=>by rw[hw1];rfl) (bY (cf:=bX) (z:=2) (fun _=>rfl) hj (k:=0) (by decide)) ?_;conv=>whnf)
      | (split<;>conv=>whnf))
     all_goals first
      | (refine⟨_,ax.refl _,?_⟩;rw[aJ hlt' (by rw[hok];((try subst heq1);(try subst heq2);(try subst heq3);simp only[cond_true,cond_false,ao,aC,aB,aD,aA,aE,decide_eq_true_eq,decide_eq_false_iff_not,beq_iff_eq,bne_iff_ne,ne_eq,beq_eq_false_iff_ne,bne_eq_false_iff_eq,Bool.not_eq_true,Bool.not_eq_false,Bool.and_true,Bool.true_and,Bool.and_false,Bool.false_and,Bool.or_true,Bool.or_false,Bool.true_or,Bool.false_or,Bool.not_eq_true',Bool.not_eq_false',Bool.not_true,Bool.not_false] at *;first | omega))];first | done | rfl)
      | (
       refine⟨i+1,⟨⟨hlt',hnext (by rw[hok];((try subst heq1);(try subst heq2);(try subst heq3);simp only[cond_true,cond_false,ao,aC,aB,aD,aA,aE,decide_eq_true_eq,decide_eq_false_iff_not,beq_iff_eq,bne_iff_ne,ne_eq,beq_eq_false_iff_ne,bne_eq_false_iff_eq,Bool.not_eq_true,Bool.not_eq_false,Bool.and_true,Bool.true_and,Bool.and_false,Bool.false_and,Bool.or_true,Bool.or_false,Bool.true_or,Bool.false_or,Bool.not_eq_true',Bool.not_eq_false',Bool.not_true,Bool.not_false] at *;first | omega))⟩,by dsimp only;omega⟩,?_,?_,ax.refl _⟩;(conv=>whnf);refine⟨?_,rfl⟩;repeat (first | exact au.nil | refine au.any ?_ | refine au.cons ?_ | refine au.eq (by rw[wrap_i64 (by omega)];rfl) ?_)
       (conv=>whnf);exact trivial)
 · have hie:i=l.length:=by
    simp only[ao,decide_eq_false_iff_not] at hlt
    omega
   subst hie
   conv=>whnf
   repeat (refine aa.of ?_;conv=>whnf)
   rw[aV hall,Bool.true_and]
   repeat' (first
    | (refine ar.aj (ak.aH ae rfl rfl (ad:=⟨br,0,none⟩) (k:=_) (L:=gp ⟨pat,now,sent,first,h,l,wh,wait,co,ci⟩) (v:=_) (aK.row (by simp[Value.cells])) (fun _=>rfl) rfl ?_);conv=>whnf)
    | (refine ar.aj (ak.aQ ae rfl rfl (ad:=⟨br,0,none⟩) (k:=_) (L:=gp ⟨pat,now,sent,first,h,l,wh,wait,co,ci⟩) (m:=_) (aK.row (by simp[Value.cells])) rfl rfl rfl ?_);conv=>whnf)
    | (refine aw.val hc (fun w hw=>⟨hw.2,trivial⟩) (fun v D hv=>?_);subst hv;conv=>whnf)
    | (refine aw.val h1 (fun w hw=>trivial) (fun v D hv=>?_);subst hv;conv=>whnf)
    | (refine aw.val h2 (fun w hw=>trivial) (fun v D hv=>?_);subst hv;conv=>whnf)
    | (cases q4<;>conv=>whnf)
    | (cases q5<;>conv=>whnf)
    | (cases q6<;>conv=>whnf))
   all_goals exact⟨_,ax.refl _,rfl⟩
structure nG where
 dev:Int
 tag:Int
 frame:Int
 w:Bool
 deriving Inhabited
def aW (x:nG):List Value:=[.int .i64 x.dev,.int .i64 x.tag,.int .i64 x.frame,.bool x.w]
theorem n5 (x:nG):af Tryz.prog 174 [.agg ⟨aW x⟩] (fun _=>True) (fun v F=>v = .bool (decide (1≤x.dev∧x.dev≤4∧0≤x.tag∧0≤x.frame∧x.frame<96))):=by
 refine af.aG ae Tryz.func174 rfl (by decide) (n:=Tryz.f174.ntmps - 1) rfl rfl fun w0 av=>?_
 conv=>whnf
 repeat (refine aa.of ?_;conv=>whnf)
 intro b0
 conv=>whnf
 repeat (refine aa.of ?_;conv=>whnf)
 exact⟨_,ax.refl _,by congr 1;rw[Bool.eq_iff_iff];simp[aD,ao,aC,aB,aA,aE,and_assoc];try omega⟩
def dp (v w:nG):Bool:=aR v.frame w.frame&&(v.w||w.w)
theorem sQ (v w:nG):af Tryz.prog 177 [.agg ⟨aW v⟩,.agg ⟨aW w⟩] (fun _=>True) (fun u F=>u = .bool (dp v w)):=by
 unfold dp
 refine af.aG ae Tryz.func177 rfl (by decide) (n:=Tryz.f177.ntmps - 2) rfl rfl fun w0 av=>?_
 conv=>whnf
 repeat (refine aa.of ?_;conv=>whnf)
 intro b1
 conv=>whnf
 repeat (refine aa.of ?_;conv=>whnf)
 intro b2
 conv=>whnf
 repeat (refine aa.of ?_;conv=>whnf)
 repeat' (first
  | (split<;>conv=>whnf))
 all_goals refine⟨_,ax.refl _,?_⟩
 all_goals first | rfl | (congr 1;rw[Bool.eq_iff_iff];simp_all [aD,ao,aC,aB,aA,aE,and_assoc];done)
theorem vD (v w:nG) (b:Nat):af Tryz.prog 176 [.agg ⟨aW v⟩,.pointer (some ⟨b,0,none⟩)] (fun ww=>ai ww (some ⟨b,0,none⟩) (aW w)) (fun u F=>u = .bool (dp v w)):=by
 have h1:=sQ v w
 generalize dp v w=q1 at *
 refine af.aG ae Tryz.func176 rfl (by decide) (n:=Tryz.f176.ntmps - 2) rfl rfl fun w0 av=>?_
 conv=>whnf
 repeat (refine aa.of ?_;conv=>whnf)
 intro b1
 conv=>whnf
 repeat (refine aa.of ?_;conv=>whnf)
 refine ar.aj (ak.aQ ae rfl rfl (ad:=⟨b,0,none⟩) (k:=0) (L:=aW w) (m:=aW w) (.fact fun w hw=>hw) rfl rfl rfl ?_)
 conv=>whnf
 repeat (refine aa.of ?_;conv=>whnf)
 refine aw.val h1 (fun w hw=>trivial) (fun v D hv=>?_)
 subst hv
 conv=>whnf
 repeat (refine aa.of ?_;conv=>whnf)
 exact⟨_,ax.refl _,rfl⟩
def gk (l:List nG) (j:Nat):Bool:=decide (1≤l[j]!.dev∧l[j]!.dev≤4∧0≤l[j]!.tag∧0≤l[j]!.frame∧l[j]!.frame<96)&&(decide (0<j→dN l[j - 1]!.dev l[j]!.dev l[j - 1]!.tag l[j]!.tag<0) && !((l.take j).any fun v=>dp v l[j]!))
theorem z7 {α:Type} (cf:α→List Value) (hz : ∀ x,(cf x).length=4) (f:FuncId) (Pre:World→Prop) (p:α→Bool) (u0:Value) (l:List α) (h:Hd) (hh:h.Ok l.length) (hl:l.length≤140737488355328) (hf : ∀ e∈l,af Tryz.prog f [.agg ⟨cf e⟩,u0] Pre (fun v F=>v = .bool (p e))) :
 af Tryz.prog 200 [h.v l.length,.func (.func f) #[] #[u0]] (fun w=>ai w h.a (l.flatMap cf)∧Pre w) (fun v F=>v = .int .i64 (ek (l.findIdx? p))):=by
 refine af.aG ae Tryz.func200 rfl (by decide) (n:=Tryz.f200.ntmps - 2) rfl rfl fun w0 av=>?_
 conv=>whnf
 refine az.loop ae (ι:=Nat) ([5]++List.range' 8 11) (fun x=>x≤l.length∧∀ j (hj:j<l.length),j<x→p l[j]=false)
  (fun x=>[(8,.v (.int .i64 (x:Int)))]) (fun _=>[]) (fun _=>⟨fun w=>ai w h.a (l.flatMap cf)∧Pre w,[]⟩)
  (fun x=>l.length - x) 0 ⟨Nat.zero_le _,fun j hj h=>by omega⟩ ?_ rfl (ax.refl _) fun i hi=>?_
 · conv=>whnf
   repeat (first | exact au.nil | refine au.any ?_ | refine au.cons ?_)
 obtain⟨hi,hall⟩:=hi
 conv=>whnf
 refine bF.split (fun hlt=>?_) (fun hlt=>?_)
 · have hlt':i<l.length:=by
    simp only[ao,decide_eq_true_eq] at hlt
    omega
   conv=>whnf
   repeat (refine aa.of ?_;conv=>whnf)
   refine ar.aj (ak.index ae (t:=95) rfl rfl rfl (by omega) (by omega) hh.nil fun ad had=>?_)
   conv=>whnf
   repeat (refine aa.of ?_;conv=>whnf)
   refine ar.aj (ak.aQ ae (t:=168) rfl rfl (ad:=ad) (k:=i*4) (L:=l.flatMap cf) (m:=cf l[i]) (.fact fun w hw=>had ▸ hw.1) (by simp) (a8 hz hlt') (hz _) ?_)
   conv=>whnf
   repeat (refine aa.of ?_;conv=>whnf)
   refine aw.val (hf _ (List.getElem_mem hlt')) (fun w hw=>hw.2) (fun v D hv=>?_)
   generalize hq:p l[i]=q at hv
   subst hv
   cases q
   · conv=>whnf
     repeat (refine aa.of ?_;conv=>whnf)
     refine⟨i+1,⟨⟨hlt',fun j hj h=>?_⟩,by dsimp only;omega⟩,?_,?_,ax.refl _⟩
     · rcases Nat.lt_or_eq_of_le (Nat.lt_succ_iff.1 h) with h5 | h5
       · exact hall j hj h5
       · subst h5
         exact hq
     · conv=>whnf
       refine⟨?_,rfl⟩
       repeat (first | exact au.nil | refine au.any ?_ | refine au.cons ?_ | refine au.eq (by rw[wrap_i64 (by omega)];rfl) ?_)
     · conv=>whnf
       exact trivial
   · conv=>whnf
     repeat (refine aa.of ?_;conv=>whnf)
     refine⟨_,ax.refl _,?_⟩
     have:l.findIdx? p=some i:=by
      rw[List.findIdx?_eq_some_iff_getElem]
      exact⟨hlt',hq,fun j hj=>by simpa using hall j (by omega) hj⟩
     rw[this]
     rfl
 · have hie:i=l.length:=by
    simp only[ao,decide_eq_false_iff_not] at hlt
    omega
   subst hie
   conv=>whnf
   repeat (refine aa.of ?_;conv=>whnf)
   refine⟨_,ax.refl _,?_⟩
   have:l.findIdx? p=none:=by
    rw[List.findIdx?_eq_none_iff]
    intro x hx
    obtain⟨j,hj,rfl⟩:=List.getElem_of_mem hx
    simpa using hall j hj hj
   rw[this]
   rfl
theorem sX {α:Type} (cf:α→List Value) (hz : ∀ x,(cf x).length=4) (f:FuncId) (Pre:World→Prop) (p:α→Bool) (u0:Value) (l:List α) (h:Hd) (hh:h.Ok l.length) (hl:l.length≤140737488355328) (hf : ∀ e∈l,af Tryz.prog f [.agg ⟨cf e⟩,u0] Pre (fun v F=>v = .bool (p e))) :
 af Tryz.prog 124 [h.v l.length,.func (.func f) #[] #[u0]] (fun w=>ai w h.a (l.flatMap cf)∧Pre w) (fun v F=>v = .bool (l.any p)):=by
 have hi:=z7 cf hz f Pre p u0 l h hh hl hf
 have hv:=dT l p
 generalize ek (l.findIdx? p)=j at *
 refine af.aG ae Tryz.func124 rfl (by decide) (n:=Tryz.f124.ntmps - 2) rfl rfl fun w0 av=>?_
 conv=>whnf
 repeat (refine aa.of ?_;conv=>whnf)
 refine aw.val hi (fun w hw=>hw) (fun v D hv=>?_)
 subst hv
 conv=>whnf
 repeat (refine aa.of ?_;conv=>whnf)
 exact⟨_,ax.refl _,by rw[← hv,aD]⟩
theorem nn (l:List nG) (h:Hd) (hh:h.Ok l.length) (hl:l.length≤140737488355328) :
 af Tryz.prog 104 [h.v l.length] (fun w=>ai w h.a (l.flatMap aW)) (fun v F=>v = .bool (allI l.length (gk l))):=by
 refine af.aG ae Tryz.func104 rfl (by decide) (n:=Tryz.f104.ntmps - 1) rfl rfl fun w0 av=>?_
 conv=>whnf
 repeat (refine aa.of ?_;conv=>whnf)
 refine az.loop ae (ι:=Nat) ([3,4]++List.range' 7 30) (fun x=>x≤l.length∧∀ j,j<x→gk l j=true)
  (fun x=>[(7,.v (.int .i64 (x:Int)))]) (fun _=>[]) (fun _=>⟨fun w=>ai w h.a (l.flatMap aW),[]⟩)
  (fun x=>l.length - x) 0 ⟨Nat.zero_le _,fun j h=>by omega⟩ ?_ rfl (ax.of_le ⟨by simp[Value.cells],fun w hw=>hw⟩) fun i hi=>?_
 · conv=>whnf
   repeat (first | exact au.nil | refine au.any ?_ | refine au.cons ?_)
 obtain⟨hi,hall⟩:=hi
 conv=>whnf
 repeat (refine aa.of ?_;conv=>whnf)
 refine bF.split (fun hlt=>?_) (fun hlt=>?_)
 · have hlt':i<l.length:=by
    simp only[ao,decide_eq_true_eq] at hlt
    omega
   have hok:gk l i=(decide (1≤l[i].dev∧l[i].dev≤4∧0≤l[i].tag∧0≤l[i].frame∧l[i].frame<96)&&(decide (0<i→dN l[i - 1]!.dev l[i].dev l[i - 1]!.tag l[i].tag<0) && !((l.take i).any fun v=>dp v l[i]))):=by
    unfold gk
    rw[bn hlt']
   have hnext:gk l i=true→∀ j,j<i+1→gk l j=true:=fun hs j hj=>by
    rcases Nat.lt_or_eq_of_le (Nat.lt_succ_iff.1 hj) with h5 | h5
    · exact hall j h5
    · exact h5 ▸ hs
   have hq1:=n5 l[i]
   obtain⟨q1,heq1⟩ : ∃ q,q=decide (1≤l[i].dev∧l[i].dev≤4∧0≤l[i].tag∧0≤l[i].frame∧l[i].frame<96):=⟨_,rfl⟩
   rw[← heq1] at hq1
   have hq2:=fun(b:Nat)=>sX aW (fun _=>rfl) 176 (fun w=>ai w (some ⟨b,0,none⟩) (aW l[i])) (fun v=>dp v l[i]) (.pointer (some ⟨b,0,none⟩)) (l.take i) h (by rw[List.length_take,Nat.min_eq_left hi];exact hh.less hi) (by rw[List.length_take];omega) (fun e _=>vD e l[i] b)
   obtain⟨q2,heq2⟩ : ∃ q,q=((l.take i).any fun v=>dp v l[i]):=⟨_,rfl⟩
   rw[← heq2] at hq2
   conv=>whnf
   repeat (refine aa.of ?_;conv=>whnf)
   refine ar.aj (ak.index ae (t:=95) rfl rfl rfl (by first | omega) (by first | omega) hh.nil fun ad had=>?_)
   conv=>whnf
   repeat (refine aa.of ?_;conv=>whnf)
   refine ar.aj (ak.aQ ae (t:=168) rfl rfl (ad:=ad) (k:=i*4) (L:=l.flatMap aW) (m:=aW l[i]) (.fact fun w hw=>had ▸ hw) (by simp) (a8 (cf:=aW) (z:=4) (fun _=>rfl) hlt') rfl ?_)
   conv=>whnf
   repeat (refine aa.of ?_;conv=>whnf)
   intro b1
   conv=>whnf
   repeat (refine aa.of ?_;conv=>whnf)
   refine az.draw ae mixed rfl rfl ?_
   conv=>whnf
   rcases Nat.eq_zero_or_pos i with h0 | h0
   · have hg:gY (i:Int) 0=false:=by simp[aB];omega
     repeat' (first
      | (rw[hg];conv=>whnf)
      | (refine aw.val hq1 (fun w hw=>trivial) (fun v D hv=>?_);subst hv;conv=>whnf)
      | (refine ak.uP ae (t:=95) rfl rfl rfl i rfl (by have:=hh.cap;omega) ?_;conv=>whnf)
      | (refine aw.look (by have:=hq2 b1;rw[List.length_take,Nat.min_eq_left hi] at this;exact this) ((Loc.row _ _).and (Loc.row _ _)) (fun w hst=>⟨by have h2:=ai.take hst.now (i*4);rw[jD (cf:=aW) (z:=4) (fun _=>rfl)] at h2;exact h2,aK.box 0 rfl (by simp) rfl w hst⟩) ?_;conv=>whnf)
      | (split<;>conv=>whnf))
     all_goals first
      | (refine⟨_,ax.refl _,?_⟩;rw[aJ hlt' (by rw[hok];((try subst heq1);(try subst heq2);(try subst heq3);simp only[cond_true,cond_false,ao,aC,aB,aD,aA,aE,decide_eq_true_eq,decide_eq_false_iff_not,beq_iff_eq,bne_iff_ne,ne_eq,beq_eq_false_iff_ne,bne_eq_false_iff_eq,Bool.not_eq_true,Bool.not_eq_false,Bool.and_true,Bool.true_and,Bool.and_false,Bool.false_and,Bool.or_true,Bool.or_false,Bool.true_or,Bool.false_or,Bool.not_eq_true',Bool.not_eq_false',Bool.not_true,Bool.not_false] at *;first | (simp_all;done)))];first | done | rfl)
      | (
       refine⟨i+1,⟨⟨hlt',hnext (by rw[hok];((try subst heq1);(try subst heq2);(try subst heq3);simp only[cond_true,cond_false,ao,aC,aB,aD,aA,aE,decide_eq_true_eq,decide_eq_false_iff_not,beq_iff_eq,bne_iff_ne,ne_eq,beq_eq_false_iff_ne,bne_eq_false_iff_eq,Bool.not_eq_true,Bool.not_eq_false,Bool.and_true,Bool.true_and,Bool.and_false,Bool.false_and,Bool.or_true,Bool.or_false,Bool.true_or,Bool.false_or,Bool.not_eq_true',Bool.not_eq_false',Bool.not_true,Bool.not_false] at *;first | (simp_all;done)))⟩,by dsimp only;omega⟩,?_,?_,ax.refl _⟩;(conv=>whnf);refine⟨?_,rfl⟩;repeat (first | exact au.nil | refine au.any ?_ | refine au.cons ?_ | refine au.eq (by rw[wrap_i64 (by omega)];rfl) ?_)
       (conv=>whnf);exact trivial)
   · have hg:gY (i:Int) 0=true:=by simp[aB];omega
     have hj:i - 1<l.length:=by omega
     have hw1:IntKind.i64.wrap ((i:Int) - 1)=((i - 1:Nat):Int):=by
      rw[wrap_i64 (by omega)]
      omega
     try rw[bn hj] at hok
     repeat' (first
      | (rw[hg];conv=>whnf)
      | (refine aw.val hq1 (fun w hw=>trivial) (fun v D hv=>?_);subst hv;conv=>whnf)
      | (refine ak.uP ae (t:=95) rfl rfl rfl i rfl (by have:=hh.cap;omega) ?_;conv=>whnf)
      | (refine aw.look (by have:=hq2 b1;rw[List.length_take,Nat.min_eq_left hi] at this;exact this) ((Loc.row _ _).and (Loc.row _ _)) (fun w hst=>⟨by have h2:=ai.take hst.now (i*4);rw[jD (cf:=aW) (z:=4) (fun _=>rfl)] at h2;exact h2,aK.box 0 rfl (by simp) rfl w hst⟩) ?_;conv=>whnf)
      | (refine ak.index ae (t:=95) rfl rfl rfl (by first | omega) (by first | omega) hh.nil fun ad2 had2=>?_;conv=>whnf)
      | (refine ak.aQ ae (t:=168) rfl rfl (ad:=ad2) (k:=(i - 1)*4) (L:=l.flatMap aW) (m:=aW l[i - 1]) (.fact fun w hw=>had2 ▸ hw) (by rw[hw1];simp) (a8 (cf:=aW) (z:=4) (fun _=>rfl) hj) rfl ?_;conv=>whnf)
      | (refine aw.val (qi l[i - 1].dev l[i - 1].tag l[i - 1].frame l[i].dev l[i].tag l[i].frame l[i - 1].w l[i].w) (fun w hw=>trivial) (fun v D hv=>?_);subst hv;conv=>whnf)
      | (split<;>conv=>whnf))
     all_goals first
      | (refine⟨_,ax.refl _,?_⟩;rw[aJ hlt' (by rw[hok];((try subst heq1);(try subst heq2);(try subst heq3);simp only[cond_true,cond_false,ao,aC,aB,aD,aA,aE,decide_eq_true_eq,decide_eq_false_iff_not,beq_iff_eq,bne_iff_ne,ne_eq,beq_eq_false_iff_ne,bne_eq_false_iff_eq,Bool.not_eq_true,Bool.not_eq_false,Bool.and_true,Bool.true_and,Bool.and_false,Bool.false_and,Bool.or_true,Bool.or_false,Bool.true_or,Bool.false_or,Bool.not_eq_true',Bool.not_eq_false',Bool.not_true,Bool.not_false] at *;first | (simp_all;done) | (simp_all;omega)))];first | done | rfl)
      | (
       refine⟨i+1,⟨⟨hlt',hnext (by rw[hok];((try subst heq1);(try subst heq2);(try subst heq3);simp only[cond_true,cond_false,ao,aC,aB,aD,aA,aE,decide_eq_true_eq,decide_eq_false_iff_not,beq_iff_eq,bne_iff_ne,ne_eq,beq_eq_false_iff_ne,bne_eq_false_iff_eq,Bool.not_eq_true,Bool.not_eq_false,Bool.and_true,Bool.true_and,Bool.and_false,Bool.false_and,Bool.or_true,Bool.or_false,Bool.true_or,Bool.false_or,Bool.not_eq_true',Bool.not_eq_false',Bool.not_true,Bool.not_false] at *;first | (simp_all;done)))⟩,by dsimp only;omega⟩,?_,?_,ax.refl _⟩;(conv=>whnf);refine⟨?_,rfl⟩;repeat (first | exact au.nil | refine au.any ?_ | refine au.cons ?_ | refine au.eq (by rw[wrap_i64 (by omega)];rfl) ?_)
       (conv=>whnf);exact trivial)
 · have hie:i=l.length:=by
    simp only[ao,decide_eq_false_iff_not] at hlt
    omega
   subst hie
   conv=>whnf
   repeat (refine aa.of ?_;conv=>whnf)
   exact⟨_,ax.refl _,by rw[aV hall]⟩
def kf (l:List Int) (j:Nat):Bool:=decide (1≤l[j]!∧l[j]! < 32) && !((l.take j).any fun y=>l[j]! == y)
theorem nj (l:List Int) (h:Hd) (hh:h.Ok l.length) (hl:l.length≤140737488355328) :
 af Tryz.prog 114 [h.v l.length] (fun w=>ai w h.a (l.map bH)) (fun v F=>v = .bool (allI l.length (kf l))):=by
 refine af.aG ae Tryz.func114 rfl (by decide) (n:=Tryz.f114.ntmps - 1) rfl rfl fun w0 av=>?_
 conv=>whnf
 repeat (refine aa.of ?_;conv=>whnf)
 refine az.loop ae (ι:=Nat) ([3,4]++List.range' 7 20) (fun x=>x≤l.length∧∀ j,j<x→kf l j=true)
  (fun x=>[(7,.v (.int .i64 (x:Int)))]) (fun _=>[]) (fun _=>⟨fun w=>ai w h.a (l.map bH),[]⟩)
  (fun x=>l.length - x) 0 ⟨Nat.zero_le _,fun j h=>by omega⟩ ?_ rfl (ax.refl _) fun i hi=>?_
 · conv=>whnf
   repeat (first | exact au.nil | refine au.any ?_ | refine au.cons ?_)
 obtain⟨hi,hall⟩:=hi
 conv=>whnf
 repeat (refine aa.of ?_;conv=>whnf)
 refine bF.split (fun hlt=>?_) (fun hlt=>?_)
 · have hlt':i<l.length:=by
    simp only[ao,decide_eq_true_eq] at hlt
    omega
   have hok:kf l i=(decide (1≤l[i]∧l[i]<32) && !((l.take i).any fun y=>l[i] == y)):=by
    unfold kf
    rw[bn hlt']
   have hnext:kf l i=true→∀ j,j<i+1→kf l j=true:=fun hs j hj=>by
    rcases Nat.lt_or_eq_of_le (Nat.lt_succ_iff.1 hj) with h5 | h5
    · exact hall j h5
    · exact h5 ▸ hs
   have hq2:=rk l[i] (l.take i) h (by rw[List.length_take,Nat.min_eq_left hi];exact hh.less hi) (by rw[List.length_take];omega)
   rw[List.length_take,Nat.min_eq_left hi] at hq2
   obtain⟨q2,heq2⟩ : ∃ q,q=(l.take i).any fun y=>l[i] == y:=⟨_,rfl⟩
   rw[← heq2] at hq2
   conv=>whnf
   repeat (refine aa.of ?_;conv=>whnf)
   refine ar.aj (ak.index ae (t:=89) rfl rfl rfl (by omega) (by omega) hh.nil fun ad had=>?_)
   conv=>whnf
   repeat (refine aa.of ?_;conv=>whnf)
   refine ar.aj (ak.aH ae (t:=3) rfl rfl (ad:=ad) (k:=i) (L:=l.map bH) (v:=bH l[i]) (.fact fun w hw=>had ▸ hw) (fun hs=>by rw[Nat.mul_one];rfl) (by rw[List.getElem?_map,List.getElem?_eq_getElem hlt'];rfl) ?_)
   conv=>whnf
   repeat (refine aa.of ?_;conv=>whnf)
   repeat' (first
    | (refine ar.aj (ak.uP ae (t:=89) rfl rfl rfl i rfl (by have:=hh.cap;omega) ?_);conv=>whnf)
    | (refine aw.val hq2 (fun w hw=>by have h2:=ai.take hw i;rw[← List.map_take] at h2;exact h2) (fun v D hv=>?_);subst hv;conv=>whnf)
    | (split<;>conv=>whnf))
   all_goals first
    | (refine⟨_,ax.refl _,?_⟩;rw[aJ hlt' (by rw[hok];((try subst heq1);(try subst heq2);(try subst heq3);simp only[cond_true,cond_false,ao,aC,aB,aD,aA,aE,decide_eq_true_eq,decide_eq_false_iff_not,beq_iff_eq,bne_iff_ne,ne_eq,beq_eq_false_iff_ne,bne_eq_false_iff_eq,Bool.not_eq_true,Bool.not_eq_false,Bool.and_true,Bool.true_and,Bool.and_false,Bool.false_and,Bool.or_true,Bool.or_false,Bool.true_or,Bool.false_or,Bool.not_eq_true',Bool.not_eq_false',Bool.not_true,Bool.not_false] at *;first | (simp_all;done) | (simp_all;omega)))];first | done | rfl)
    | (
     refine⟨i+1,⟨⟨hlt',hnext (by rw[hok];((try subst heq1);(try subst heq2);(try subst heq3);simp only[cond_true,cond_false,ao,aC,aB,aD,aA,aE,decide_eq_true_eq,decide_eq_false_iff_not,beq_iff_eq,bne_iff_ne,ne_eq,beq_eq_false_iff_ne,bne_eq_false_iff_eq,Bool.not_eq_true,Bool.not_eq_false,Bool.and_true,Bool.true_and,Bool.and_false,Bool.false_and,Bool.or_true,Bool.or_false,Bool.true_or,Bool.false_or,Bool.not_eq_true',Bool.not_eq_false',Bool.not_true,Bool.not_false] at *;first | (simp_all;done)))⟩,by dsimp only;omega⟩,?_,?_,ax.refl _⟩;(conv=>whnf);refine⟨?_,rfl⟩;repeat (first | exact au.nil | refine au.any ?_ | refine au.cons ?_ | refine au.eq (by rw[wrap_i64 (by omega)];rfl) ?_)
     (conv=>whnf);exact trivial)
 · have hie:i=l.length:=by
    simp only[ao,decide_eq_false_iff_not] at hlt
    omega
   subst hie
   conv=>whnf
   repeat (refine aa.of ?_;conv=>whnf)
   exact⟨_,ax.refl _,by rw[aV hall]⟩
structure qs where
 dev:Int
 tag:Int
 ans:Int
 data:Bs
instance:Inhabited qs:=⟨⟨0,0,0,default⟩⟩
def cK (x:qs):List Value:=[.int .i64 x.dev,.int .i64 x.tag,.int .i64 x.ans,du x.data]
theorem tB (a:Int):af Tryz.prog 231 [.int .i64 a] (fun _=>True) (fun v F=>v = .bool (decide (1≤a∧a≤4))):=by
 refine af.aG ae Tryz.func231 rfl (by decide) (n:=Tryz.f231.ntmps - 1) rfl rfl fun w0 av=>?_
 conv=>whnf
 repeat (refine aa.of ?_;conv=>whnf)
 exact⟨_,ax.refl _,by congr 1;rw[Bool.eq_iff_iff];simp[aD,ao,aC,aB,aA,aE,and_assoc];try omega⟩
def sK (x:qs):Bool:=decide (1≤x.dev∧x.dev≤4)&&decide (0≤x.tag∧x.data.n≤128)
theorem oo (x:qs):af Tryz.prog 185 [.agg ⟨cK x⟩] (fun _=>True) (fun v F=>v = .bool (sK x)):=by
 have h1:=tB x.dev
 unfold sK
 generalize decide (1≤x.dev∧x.dev≤4)=q1 at *
 refine af.aG ae Tryz.func185 rfl (by decide) (n:=Tryz.f185.ntmps - 1) rfl rfl fun w0 av=>?_
 conv=>whnf
 repeat (refine aa.of ?_;conv=>whnf)
 intro b1
 conv=>whnf
 repeat (refine aa.of ?_;conv=>whnf)
 repeat' (first
  | (refine aa.of ?_;conv=>whnf)
  | (refine aw.val h1 (fun w hw=>trivial) (fun v D hv=>?_);subst hv;conv=>whnf)
  | (cases q1<;>conv=>whnf))
 all_goals refine⟨_,ax.refl _,?_⟩
 all_goals first | rfl | (congr 1;rw[Bool.eq_iff_iff];simp_all [aD,ao,aC,aB,aA,aE,and_assoc];omega)
def di (x y:qs):Bool:=aR x.dev y.dev&&aR x.tag y.tag
theorem vO (x y:qs) (b:Nat):af Tryz.prog 233 [.agg ⟨cK x⟩,.pointer (some ⟨b,0,none⟩)] (fun w=>ai w (some ⟨b,0,none⟩) (cK y)) (fun v F=>v = .bool (di x y)):=by
 unfold di
 refine af.aG ae Tryz.func233 rfl (by decide) (n:=Tryz.f233.ntmps - 2) rfl rfl fun w0 av=>?_
 conv=>whnf
 repeat (refine aa.of ?_;conv=>whnf)
 intro b1
 conv=>whnf
 repeat (refine aa.of ?_;conv=>whnf)
 repeat' (first
  | (refine ar.aj (ak.aH ae rfl rfl (ad:=⟨b,0,none⟩) (k:=_) (L:=cK y) (v:=_) (.fact fun w hw=>hw) (fun _=>rfl) rfl ?_);conv=>whnf)
  | (split<;>conv=>whnf))
 all_goals refine⟨_,ax.refl _,?_⟩
 all_goals first | rfl | (congr 1;rw[Bool.eq_iff_iff];simp_all [aD,ao,aC,aB,aA,aE,and_assoc];done)
theorem Bw {α:Type} (cf:α→List Value) (hz : ∀ x,(cf x).length=4) (f:FuncId) (Pre:World→Prop) (p:α→Bool) (u0:Value) (l:List α) (h:Hd) (hh:h.Ok l.length) (hl:l.length≤140737488355328) (hf : ∀ e∈l,af Tryz.prog f [.agg ⟨cf e⟩,u0] Pre (fun v F=>v = .bool (p e))) :
 af Tryz.prog 245 [h.v l.length,.func (.func f) #[] #[u0]] (fun w=>ai w h.a (l.flatMap cf)∧Pre w) (fun v F=>v = .int .i64 (ek (l.findIdx? p))):=by
 refine af.aG ae Tryz.func245 rfl (by decide) (n:=Tryz.f245.ntmps - 2) rfl rfl fun w0 av=>?_
 conv=>whnf
 refine az.loop ae (ι:=Nat) ([5]++List.range' 8 11) (fun x=>x≤l.length∧∀ j (hj:j<l.length),j<x→p l[j]=false)
  (fun x=>[(8,.v (.int .i64 (x:Int)))]) (fun _=>[]) (fun _=>⟨fun w=>ai w h.a (l.flatMap cf)∧Pre w,[]⟩)
  (fun x=>l.length - x) 0 ⟨Nat.zero_le _,fun j hj h=>by omega⟩ ?_ rfl (ax.refl _) fun i hi=>?_
 · conv=>whnf
   repeat (first | exact au.nil | refine au.any ?_ | refine au.cons ?_)
 obtain⟨hi,hall⟩:=hi
 conv=>whnf
 refine bF.split (fun hlt=>?_) (fun hlt=>?_)
 · have hlt':i<l.length:=by
    simp only[ao,decide_eq_true_eq] at hlt
    omega
   conv=>whnf
   repeat (refine aa.of ?_;conv=>whnf)
   refine ar.aj (ak.index ae (t:=119) rfl rfl rfl (by omega) (by omega) hh.nil fun ad had=>?_)
   conv=>whnf
   repeat (refine aa.of ?_;conv=>whnf)
   refine ar.aj (ak.aQ ae (t:=179) rfl rfl (ad:=ad) (k:=i*4) (L:=l.flatMap cf) (m:=cf l[i]) (.fact fun w hw=>had ▸ hw.1) (by simp) (a8 hz hlt') (hz _) ?_)
   conv=>whnf
   repeat (refine aa.of ?_;conv=>whnf)
   refine aw.val (hf _ (List.getElem_mem hlt')) (fun w hw=>hw.2) (fun v D hv=>?_)
   generalize hq:p l[i]=q at hv
   subst hv
   cases q
   · conv=>whnf
     repeat (refine aa.of ?_;conv=>whnf)
     refine⟨i+1,⟨⟨hlt',fun j hj h=>?_⟩,by dsimp only;omega⟩,?_,?_,ax.refl _⟩
     · rcases Nat.lt_or_eq_of_le (Nat.lt_succ_iff.1 h) with h5 | h5
       · exact hall j hj h5
       · subst h5
         exact hq
     · conv=>whnf
       refine⟨?_,rfl⟩
       repeat (first | exact au.nil | refine au.any ?_ | refine au.cons ?_ | refine au.eq (by rw[wrap_i64 (by omega)];rfl) ?_)
     · conv=>whnf
       exact trivial
   · conv=>whnf
     repeat (refine aa.of ?_;conv=>whnf)
     refine⟨_,ax.refl _,?_⟩
     have:l.findIdx? p=some i:=by
      rw[List.findIdx?_eq_some_iff_getElem]
      exact⟨hlt',hq,fun j hj=>by simpa using hall j (by omega) hj⟩
     rw[this]
     rfl
 · have hie:i=l.length:=by
    simp only[ao,decide_eq_false_iff_not] at hlt
    omega
   subst hie
   conv=>whnf
   repeat (refine aa.of ?_;conv=>whnf)
   refine⟨_,ax.refl _,?_⟩
   have:l.findIdx? p=none:=by
    rw[List.findIdx?_eq_none_iff]
    intro x hx
    obtain⟨j,hj,rfl⟩:=List.getElem_of_mem hx
    simpa using hall j hj hj
   rw[this]
   rfl
theorem AM {α:Type} (cf:α→List Value) (hz : ∀ x,(cf x).length=4) (f:FuncId) (Pre:World→Prop) (p:α→Bool) (u0:Value) (l:List α) (h:Hd) (hh:h.Ok l.length) (hl:l.length≤140737488355328) (hf : ∀ e∈l,af Tryz.prog f [.agg ⟨cf e⟩,u0] Pre (fun v F=>v = .bool (p e))) :
 af Tryz.prog 232 [h.v l.length,.func (.func f) #[] #[u0]] (fun w=>ai w h.a (l.flatMap cf)∧Pre w) (fun v F=>v = .bool (l.any p)):=by
 have hi:=Bw cf hz f Pre p u0 l h hh hl hf
 have hv:=dT l p
 generalize ek (l.findIdx? p)=j at *
 refine af.aG ae Tryz.func232 rfl (by decide) (n:=Tryz.f232.ntmps - 2) rfl rfl fun w0 av=>?_
 conv=>whnf
 repeat (refine aa.of ?_;conv=>whnf)
 refine aw.val hi (fun w hw=>hw) (fun v D hv=>?_)
 subst hv
 conv=>whnf
 repeat (refine aa.of ?_;conv=>whnf)
 exact⟨_,ax.refl _,by rw[← hv,aD]⟩
theorem mQ (l:List qs) (h:Hd) (hh:h.Ok l.length) (hl:l.length≤140737488355328) (x:qs) :
 af Tryz.prog 186 [h.v l.length,.agg ⟨cK x⟩] (fun w=>ai w h.a (l.flatMap cK)) (fun v F=>v = .bool (l.any fun y=>di y x)):=by
 have hg:=fun(b:Nat)=>AM cK (fun _=>rfl) 233 (fun w=>ai w (some ⟨b,0,none⟩) (cK x)) (fun y=>di y x) (.pointer (some ⟨b,0,none⟩)) l h hh hl (fun e _=>vO e x b)
 generalize (l.any fun y=>di y x)=q1 at *
 refine af.aG ae Tryz.func186 rfl (by decide) (n:=Tryz.f186.ntmps - 2) rfl rfl fun w0 av=>?_
 conv=>whnf
 repeat (refine aa.of ?_;conv=>whnf)
 intro b1
 conv=>whnf
 repeat (refine aa.of ?_;conv=>whnf)
 refine aw.look (hg b1) ((Loc.row _ _).and (Loc.row _ _)) (fun w hst=>⟨hst.now,aK.box 0 rfl (by simp) rfl w hst⟩) ?_
 conv=>whnf
 repeat (refine aa.of ?_;conv=>whnf)
 exact⟨_,ax.refl _,rfl⟩
def fX (l:List qs) (j:Nat):Bool:=sK l[j]! && !((l.take j).any fun y=>di y l[j]!)
theorem qA (m0 m1 m2 m3 m4:Bool) (l:List qs) (h:Hd) (hh:h.Ok l.length) (hl:l.length≤140737488355328) :
 af Tryz.prog 109 [.agg ⟨[.bool m0,.bool m1,.bool m2,.bool m3,.bool m4,h.v l.length]⟩] (fun w=>ai w h.a (l.flatMap cK)) (fun v F=>v = .bool (allI l.length (fX l)&&(decide (l.length≤32) && !m0))):=by
 refine af.aG ae Tryz.func109 rfl (by decide) (n:=Tryz.f109.ntmps - 1) rfl rfl fun w0 av=>?_
 conv=>whnf
 repeat (refine aa.of ?_;conv=>whnf)
 intro b0_0
 conv=>whnf
 repeat (refine aa.of ?_;conv=>whnf)
 refine az.loop ae (ι:=Nat) ([3,4]++List.range' 8 17) (fun x=>x≤l.length∧∀ j,j<x→fX l j=true)
  (fun x=>[(8,.v (.int .i64 (x:Int)))]) (fun _=>[[.bool m0,.bool m1,.bool m2,.bool m3,.bool m4,h.v l.length]]) (fun _=>⟨fun w=>ai w h.a (l.flatMap cK),[]⟩)
  (fun x=>l.length - x) 0 ⟨Nat.zero_le _,fun j h=>by omega⟩ ?_ rfl (ax.of_le ⟨by simp[Value.cells],fun w hw=>hw⟩) fun i hi=>?_
 · conv=>whnf
   repeat (first | exact au.nil | refine au.any ?_ | refine au.cons ?_)
 obtain⟨hi,hall⟩:=hi
 conv=>whnf
 repeat (refine aa.of ?_;conv=>whnf)
 refine bF.split (fun hlt=>?_) (fun hlt=>?_)
 · have hlt':i<l.length:=by
    simp only[ao,decide_eq_true_eq] at hlt
    omega
   have hok:fX l i=(sK l[i] && !((l.take i).any fun y=>di y l[i])):=by
    unfold fX
    rw[bn hlt']
   have hnext:fX l i=true→∀ j,j<i+1→fX l j=true:=fun hs j hj=>by
    rcases Nat.lt_or_eq_of_le (Nat.lt_succ_iff.1 hj) with h5 | h5
    · exact hall j h5
    · exact h5 ▸ hs
   have hq1:=oo l[i]
   obtain⟨q1,heq1⟩ : ∃ q,q=sK l[i]:=⟨_,rfl⟩
   rw[← heq1] at hq1
   have hq2:=mQ (l.take i) h (by rw[List.length_take,Nat.min_eq_left hi];exact hh.less hi) (by rw[List.length_take];omega) l[i]
   obtain⟨q2,heq2⟩ : ∃ q,q=((l.take i).any fun y=>di y l[i]):=⟨_,rfl⟩
   rw[← heq2] at hq2
   conv=>whnf
   repeat (refine aa.of ?_;conv=>whnf)
   refine ar.aj (ak.index ae (t:=119) rfl rfl rfl (by first | omega) (by first | omega) hh.nil fun ad had=>?_)
   conv=>whnf
   repeat (refine aa.of ?_;conv=>whnf)
   refine ar.aj (ak.aQ ae (t:=179) rfl rfl (ad:=ad) (k:=i*4) (L:=l.flatMap cK) (m:=cK l[i]) (.fact fun w hw=>had ▸ hw) (by simp) (a8 (cf:=cK) (z:=4) (fun _=>rfl) hlt') rfl ?_)
   conv=>whnf
   repeat (refine aa.of ?_;conv=>whnf)
   intro b1
   conv=>whnf
   repeat (refine aa.of ?_;conv=>whnf)
   refine az.draw ae mixed rfl rfl ?_
   conv=>whnf
   rcases Nat.eq_zero_or_pos i with h0 | h0
   · have hg:gY (i:Int) 0=false:=by simp[aB];omega
     repeat' (first
      | (refine aw.val hq1 (fun w hw=>trivial) (fun v D hv=>?_);subst hv;conv=>whnf)
      | (refine ak.uP ae (t:=119) rfl rfl rfl i rfl (by have:=hh.cap;omega) ?_;conv=>whnf)
      | (refine aw.val (by have:=hq2;rw[List.length_take,Nat.min_eq_left hi] at this;exact this) (fun w hw=>by have h2:=ai.take hw (i*4);rw[jD (cf:=cK) (z:=4) (fun _=>rfl)] at h2;exact h2) (fun v D hv=>?_);subst hv;conv=>whnf)
      | (split<;>conv=>whnf))
     all_goals first
      | (refine⟨_,ax.refl _,?_⟩;rw[aJ hlt' (by rw[hok];((try subst heq1);(try subst heq2);(try subst heq3);simp only[cond_true,cond_false,ao,aC,aB,aD,aA,aE,decide_eq_true_eq,decide_eq_false_iff_not,beq_iff_eq,bne_iff_ne,ne_eq,beq_eq_false_iff_ne,bne_eq_false_iff_eq,Bool.not_eq_true,Bool.not_eq_false,Bool.and_true,Bool.true_and,Bool.and_false,Bool.false_and,Bool.or_true,Bool.or_false,Bool.true_or,Bool.false_or,Bool.not_eq_true',Bool.not_eq_false',Bool.not_true,Bool.not_false] at *;first | (simp_all;done)))];first | done | rfl)
      | (
       refine⟨i+1,⟨⟨hlt',hnext (by rw[hok];((try subst heq1);(try subst heq2);(try subst heq3);simp only[cond_true,cond_false,ao,aC,aB,aD,aA,aE,decide_eq_true_eq,decide_eq_false_iff_not,beq_iff_eq,bne_iff_ne,ne_eq,beq_eq_false_iff_ne,bne_eq_false_iff_eq,Bool.not_eq_true,Bool.not_eq_false,Bool.and_true,Bool.true_and,Bool.and_false,Bool.false_and,Bool.or_true,Bool.or_false,Bool.true_or,Bool.false_or,Bool.not_eq_true',Bool.not_eq_false',Bool.not_true,Bool.not_false] at *;first | (simp_all;done)))⟩,by dsimp only;omega⟩,?_,?_,ax.refl _⟩;(conv=>whnf);refine⟨?_,rfl⟩;repeat (first | exact au.nil | refine au.any ?_ | refine au.cons ?_ | refine au.eq (by rw[wrap_i64 (by omega)];rfl) ?_)
       (conv=>whnf);exact⟨⟨rfl,rfl⟩,trivial⟩)
   · have hg:gY (i:Int) 0=true:=by simp[aB];omega
     have hj:i - 1<l.length:=by omega
     have hw1:IntKind.i64.wrap ((i:Int) - 1)=((i - 1:Nat):Int):=by
      rw[wrap_i64 (by omega)]
      omega
     try rw[bn hj] at hok
     repeat' (first
      | (refine aw.val hq1 (fun w hw=>trivial) (fun v D hv=>?_);subst hv;conv=>whnf)
      | (refine ak.uP ae (t:=119) rfl rfl rfl i rfl (by have:=hh.cap;omega) ?_;conv=>whnf)
      | (refine aw.val (by have:=hq2;rw[List.length_take,Nat.min_eq_left hi] at this;exact this) (fun w hw=>by have h2:=ai.take hw (i*4);rw[jD (cf:=cK) (z:=4) (fun _=>rfl)] at h2;exact h2) (fun v D hv=>?_);subst hv;conv=>whnf)
      | (split<;>conv=>whnf))
     all_goals first
      | (refine⟨_,ax.refl _,?_⟩;rw[aJ hlt' (by rw[hok];((try subst heq1);(try subst heq2);(try subst heq3);simp only[cond_true,cond_false,ao,aC,aB,aD,aA,aE,decide_eq_true_eq,decide_eq_false_iff_not,beq_iff_eq,bne_iff_ne,ne_eq,beq_eq_false_iff_ne,bne_eq_false_iff_eq,Bool.not_eq_true,Bool.not_eq_false,Bool.and_true,Bool.true_and,Bool.and_false,Bool.false_and,Bool.or_true,Bool.or_false,Bool.true_or,Bool.false_or,Bool.not_eq_true',Bool.not_eq_false',Bool.not_true,Bool.not_false] at *;first | (simp_all;done)))];first | done | rfl)
      | (
       refine⟨i+1,⟨⟨hlt',hnext (by rw[hok];((try subst heq1);(try subst heq2);(try subst heq3);simp only[cond_true,cond_false,ao,aC,aB,aD,aA,aE,decide_eq_true_eq,decide_eq_false_iff_not,beq_iff_eq,bne_iff_ne,ne_eq,beq_eq_false_iff_ne,bne_eq_false_iff_eq,Bool.not_eq_true,Bool.not_eq_false,Bool.and_true,Bool.true_and,Bool.and_false,Bool.false_and,Bool.or_true,Bool.or_false,Bool.true_or,Bool.false_or,Bool.not_eq_true',Bool.not_eq_false',Bool.not_true,Bool.not_false] at *;first | (simp_all;done)))⟩,by dsimp only;omega⟩,?_,?_,ax.refl _⟩;(conv=>whnf);refine⟨?_,rfl⟩;repeat (first | exact au.nil | refine au.any ?_ | refine au.cons ?_ | refine au.eq (by rw[wrap_i64 (by omega)];rfl) ?_)
       (conv=>whnf);exact⟨⟨rfl,rfl⟩,trivial⟩)
 · have hie:i=l.length:=by
    simp only[ao,decide_eq_false_iff_not] at hlt
    omega
   subst hie
   conv=>whnf
   repeat (refine aa.of ?_;conv=>whnf)
   rw[aV hall,Bool.true_and]
   repeat' (first
    | (cases m0<;>conv=>whnf)
    | (split<;>conv=>whnf))
   all_goals refine⟨_,ax.refl _,?_⟩
   all_goals first | rfl | (congr 1;rw[Bool.eq_iff_iff];simp_all [aD,ao,aC,aB,aA,aE,and_assoc];done) | (congr 1;rw[Bool.eq_iff_iff];simp_all [aD,ao,aC,aB,aA,aE,and_assoc];omega)
end Go.Proofs.YtlnhdpjnlffaoaaGreatDoor
