/- Parts of the proof: dy, NzA, AaA, AaB, AaC, AaD, AaE, AaF, AaG, AaH, AaI, AaJ, AaK, AaL, AaM, AaN, AaO, AaP, AaQ. -/
import Derived.Test.YtlnhdpjnlffaoaaGreatDoorQA
import Derived.Test.YtlnhdpjnlffaoaaGreatDoorProg
import Derived.KernelRfl
import Derived.Test.YtlnhdpjnlffaoaaGreatDoorQC
namespace Go.Proofs.YtlnhdpjnlffaoaaGreatDoor
open Go Go.Sx
abbrev Z0:Value:=.int .i64 0
abbrev ZF:Value:=.bool false
abbrev ZS:Value:=.slice none 0 0
abbrev yA:List Value:=
 [Z0,Z0,Z0,ZF,ZF,ZF,Z0,ZS,Z0,Z0,Z0,ZF,ZF,ZF,Z0,ZS,Z0,Z0,Z0,ZF,ZF,ZF,Z0,ZS,Z0,Z0,Z0,ZF,ZF,ZF,Z0,ZS,Z0,Z0,Z0,ZF,ZF,ZF,Z0,ZS,Z0,Z0,Z0,ZF,ZF,ZF,Z0,ZS,Z0,Z0,Z0,ZF,ZF,ZF,Z0,ZS,Z0,Z0,Z0,ZF,ZF,ZF,Z0,ZS,Z0,Z0,Z0,ZF,ZF,ZF,Z0,ZS,Z0,Z0,Z0,ZF,ZF,ZF,Z0,ZS,Z0,Z0,Z0,ZF,ZF,ZF,Z0,ZS,Z0,Z0,Z0,ZF,ZF,ZF,Z0,ZS,Z0,Z0,Z0,ZF,ZF,ZF,Z0,ZS,Z0,Z0,Z0,ZF,ZF,ZF,Z0,ZS,Z0,Z0,Z0,ZF,ZF,ZF,Z0,ZS,Z0,Z0,Z0,ZF,ZF,ZF,Z0,ZS,Z0,Z0,Z0,ZF,ZF,ZF,Z0,ZS,Z0,Z0,Z0,ZF,ZF,ZF,Z0,ZS,Z0,Z0,Z0,ZF,ZF,ZF,Z0,ZS,Z0,Z0,Z0,ZF,ZF,ZF,Z0,ZS,Z0,Z0,Z0,ZF,ZF,ZF,Z0,ZS,Z0,Z0,Z0,ZF,ZF,ZF,Z0,ZS,Z0,Z0,Z0,ZF,ZF,ZF,Z0,ZS,Z0,Z0,Z0,ZF,ZF,ZF,Z0,ZS,Z0,Z0,Z0,ZF,ZF,ZF,Z0,ZS,Z0,Z0,Z0,ZF,ZF,ZF,Z0,ZS,Z0,Z0,Z0,ZF,ZF,ZF,Z0,ZS,Z0,Z0,Z0,ZF,ZF,ZF,Z0,ZS,Z0,Z0,Z0,ZF,ZF,ZF,Z0,ZS,Z0,Z0,Z0,ZF,ZF,ZF,Z0,ZS,Z0,Z0,Z0,ZF,ZF,ZF,Z0,ZS,Z0,Z0,Z0,ZF,ZF,ZF,Z0,ZS]
abbrev yI:List Value:=
 [ZS,ZS,ZS,ZS,ZS,ZS,ZS,ZS,ZS,ZS,ZS,ZS,ZS,ZS,ZS,ZS,ZS,ZS,ZS,ZS,ZS,ZS,ZS,ZS,ZS,ZS,ZS,ZS,ZS,ZS,ZS,ZS]
abbrev yD:List Value:=
 [ZS,Z0,Z0,Z0,ZS,ZS,ZF,Z0,Z0,Z0,ZS,Z0,Z0,Z0,ZS,ZF,Z0,Z0,Z0,ZS,Z0,Z0,Z0,ZS]
abbrev yv:List Value:=
 [ZS,Z0,Z0,Z0,ZS,ZS,ZF,Z0,Z0,Z0,ZS,Z0,Z0,Z0,ZS,ZF,Z0,Z0,Z0,ZS,Z0,Z0,Z0,ZS]
abbrev yH:List Value:=
 [ZS,Z0,Z0,ZS,ZS,ZF,Z0,Z0,Z0,ZS,Z0,Z0,Z0,ZS,ZF,Z0,Z0,Z0,ZS,Z0,Z0,Z0,ZS]
abbrev y6:List Value:=
 [ZS,Z0,Z0,ZS,ZS,ZF,Z0,Z0,Z0,ZS,Z0,Z0,Z0,ZS,ZF,Z0,Z0,Z0,ZS,Z0,Z0,Z0,ZS]
abbrev yQ:List Value:=
 [Z0,Z0,Z0,ZF,ZF,ZF,Z0,ZS,Z0,Z0,Z0,ZF,ZF,ZF,Z0,ZS,Z0,Z0,Z0,ZF,ZF,ZF,Z0,ZS,Z0,Z0,Z0,ZF,ZF,ZF,Z0,ZS,Z0,Z0,Z0,ZF,ZF,ZF,Z0,ZS,Z0,Z0,Z0,ZF,ZF,ZF,Z0,ZS,Z0,Z0,Z0,ZF,ZF,ZF,Z0,ZS,Z0,Z0,Z0,ZF,ZF,ZF,Z0,ZS,Z0,Z0,Z0,ZF,ZF,ZF,Z0,ZS,Z0,Z0,Z0,ZF,ZF,ZF,Z0,ZS,Z0,Z0,Z0,ZF,ZF,ZF,Z0,ZS,Z0,Z0,Z0,ZF,ZF,ZF,Z0,ZS,Z0,Z0,Z0,ZF,ZF,ZF,Z0,ZS,Z0,Z0,Z0,ZF,ZF,ZF,Z0,ZS,Z0,Z0,Z0,ZF,ZF,ZF,Z0,ZS,Z0,Z0,Z0,ZF,ZF,ZF,Z0,ZS,Z0,Z0,Z0,ZF,ZF,ZF,Z0,ZS,Z0,Z0,Z0,ZF,ZF,ZF,Z0,ZS,Z0,Z0,Z0,ZF,ZF,ZF,Z0,ZS,Z0,Z0,Z0,ZF,ZF,ZF,Z0,ZS,Z0,Z0,Z0,ZF,ZF,ZF,Z0,ZS,Z0,Z0,Z0,ZF,ZF,ZF,Z0,ZS,Z0,Z0,Z0,ZF,ZF,ZF,Z0,ZS,Z0,Z0,Z0,ZF,ZF,ZF,Z0,ZS,Z0,Z0,Z0,ZF,ZF,ZF,Z0,ZS,Z0,Z0,Z0,ZF,ZF,ZF,Z0,ZS,Z0,Z0,Z0,ZF,ZF,ZF,Z0,ZS,Z0,Z0,Z0,ZF,ZF,ZF,Z0,ZS,Z0,Z0,Z0,ZF,ZF,ZF,Z0,ZS,Z0,Z0,Z0,ZF,ZF,ZF,Z0,ZS,Z0,Z0,Z0,ZF,ZF,ZF,Z0,ZS,Z0,Z0,Z0,ZF,ZF,ZF,Z0,ZS,ZF,ZF,ZF,ZF,ZF,ZF,ZF,ZF,ZF,ZF,ZF,ZS,ZS,Z0,ZS,ZS,ZS,ZS,ZS,ZS,ZS,ZS,ZS,ZS,ZS,ZS,ZS,ZS,ZS,ZS,ZS,ZS,ZS,ZS,ZS,ZS,ZS,ZS,ZS,ZS,ZS,ZS,ZS,ZS,ZS,ZS,ZS,ZS,ZS,ZS,ZS,ZS,ZS,ZF,Z0,Z0,Z0,ZS,Z0,Z0,Z0,ZS,Z0,Z0,ZF,ZF,ZS,Z0,Z0,Z0,ZS,ZS,ZF,Z0,Z0,Z0,ZS,Z0,Z0,Z0,ZS,ZF,Z0,Z0,Z0,ZS,Z0,Z0,Z0,ZS,ZS,Z0,Z0,ZS,ZS,ZF,Z0,Z0,Z0,ZS,Z0,Z0,Z0,ZS,ZF,Z0,Z0,Z0,ZS,Z0,Z0,Z0,ZS,Z0,ZS,ZF,ZF,ZF,ZF,ZF,ZS,ZS,ZS,ZS]
abbrev yB:List Value:=
 [Z0,Z0,Z0,ZF,ZF,ZF,Z0,ZS,Z0,Z0,Z0,ZF,ZF,ZF,Z0,ZS,Z0,Z0,Z0,ZF,ZF,ZF,Z0,ZS,Z0,Z0,Z0,ZF,ZF,ZF,Z0,ZS,Z0,Z0,Z0,ZF,ZF,ZF,Z0,ZS,Z0,Z0,Z0,ZF,ZF,ZF,Z0,ZS,Z0,Z0,Z0,ZF,ZF,ZF,Z0,ZS,Z0,Z0,Z0,ZF,ZF,ZF,Z0,ZS,Z0,Z0,Z0,ZF,ZF,ZF,Z0,ZS,Z0,Z0,Z0,ZF,ZF,ZF,Z0,ZS,Z0,Z0,Z0,ZF,ZF,ZF,Z0,ZS,Z0,Z0,Z0,ZF,ZF,ZF,Z0,ZS,Z0,Z0,Z0,ZF,ZF,ZF,Z0,ZS,Z0,Z0,Z0,ZF,ZF,ZF,Z0,ZS,Z0,Z0,Z0,ZF,ZF,ZF,Z0,ZS,Z0,Z0,Z0,ZF,ZF,ZF,Z0,ZS,Z0,Z0,Z0,ZF,ZF,ZF,Z0,ZS,Z0,Z0,Z0,ZF,ZF,ZF,Z0,ZS,Z0,Z0,Z0,ZF,ZF,ZF,Z0,ZS,Z0,Z0,Z0,ZF,ZF,ZF,Z0,ZS,Z0,Z0,Z0,ZF,ZF,ZF,Z0,ZS,Z0,Z0,Z0,ZF,ZF,ZF,Z0,ZS,Z0,Z0,Z0,ZF,ZF,ZF,Z0,ZS,Z0,Z0,Z0,ZF,ZF,ZF,Z0,ZS,Z0,Z0,Z0,ZF,ZF,ZF,Z0,ZS,Z0,Z0,Z0,ZF,ZF,ZF,Z0,ZS,Z0,Z0,Z0,ZF,ZF,ZF,Z0,ZS,Z0,Z0,Z0,ZF,ZF,ZF,Z0,ZS,Z0,Z0,Z0,ZF,ZF,ZF,Z0,ZS,Z0,Z0,Z0,ZF,ZF,ZF,Z0,ZS,Z0,Z0,Z0,ZF,ZF,ZF,Z0,ZS,Z0,Z0,Z0,ZF,ZF,ZF,Z0,ZS,ZF,ZF,ZF,ZF,ZF,ZF,ZF,ZF,ZF,ZF,ZF,ZS,ZS,Z0,ZS,ZS,ZS,ZS,ZS,ZS,ZS,ZS,ZS,ZS,ZS,ZS,ZS,ZS,ZS,ZS,ZS,ZS,ZS,ZS,ZS,ZS,ZS,ZS,ZS,ZS,ZS,ZS,ZS,ZS,ZS,ZS,ZS,ZS,ZS,ZS,ZS,ZS,ZS,ZF,Z0,Z0,Z0,ZS,Z0,Z0,Z0,ZS,Z0,Z0,ZF,ZF,ZS,Z0,Z0,Z0,ZS,ZS,ZF,Z0,Z0,Z0,ZS,Z0,Z0,Z0,ZS,ZF,Z0,Z0,Z0,ZS,Z0,Z0,Z0,ZS,ZS,Z0,Z0,ZS,ZS,ZF,Z0,Z0,Z0,ZS,Z0,Z0,Z0,ZS,ZF,Z0,Z0,Z0,ZS,Z0,Z0,Z0,ZS,Z0,ZS,ZF,ZF,ZF,ZF,ZF,ZS,ZS,ZS,ZS]
abbrev yJ:List Value:=
 [Z0,Z0,Z0,ZF,ZF,ZF,Z0,ZS,Z0,Z0,Z0,ZF,ZF,ZF,Z0,ZS,Z0,Z0,Z0,ZF,ZF,ZF,Z0,ZS,Z0,Z0,Z0,ZF,ZF,ZF,Z0,ZS,Z0,Z0,Z0,ZF,ZF,ZF,Z0,ZS,Z0,Z0,Z0,ZF,ZF,ZF,Z0,ZS,Z0,Z0,Z0,ZF,ZF,ZF,Z0,ZS,Z0,Z0,Z0,ZF,ZF,ZF,Z0,ZS,Z0,Z0,Z0,ZF,ZF,ZF,Z0,ZS,Z0,Z0,Z0,ZF,ZF,ZF,Z0,ZS,Z0,Z0,Z0,ZF,ZF,ZF,Z0,ZS,Z0,Z0,Z0,ZF,ZF,ZF,Z0,ZS,Z0,Z0,Z0,ZF,ZF,ZF,Z0,ZS,Z0,Z0,Z0,ZF,ZF,ZF,Z0,ZS,Z0,Z0,Z0,ZF,ZF,ZF,Z0,ZS,Z0,Z0,Z0,ZF,ZF,ZF,Z0,ZS,Z0,Z0,Z0,ZF,ZF,ZF,Z0,ZS,Z0,Z0,Z0,ZF,ZF,ZF,Z0,ZS,Z0,Z0,Z0,ZF,ZF,ZF,Z0,ZS,Z0,Z0,Z0,ZF,ZF,ZF,Z0,ZS,Z0,Z0,Z0,ZF,ZF,ZF,Z0,ZS,Z0,Z0,Z0,ZF,ZF,ZF,Z0,ZS,Z0,Z0,Z0,ZF,ZF,ZF,Z0,ZS,Z0,Z0,Z0,ZF,ZF,ZF,Z0,ZS,Z0,Z0,Z0,ZF,ZF,ZF,Z0,ZS,Z0,Z0,Z0,ZF,ZF,ZF,Z0,ZS,Z0,Z0,Z0,ZF,ZF,ZF,Z0,ZS,Z0,Z0,Z0,ZF,ZF,ZF,Z0,ZS,Z0,Z0,Z0,ZF,ZF,ZF,Z0,ZS,Z0,Z0,Z0,ZF,ZF,ZF,Z0,ZS,Z0,Z0,Z0,ZF,ZF,ZF,Z0,ZS,Z0,Z0,Z0,ZF,ZF,ZF,Z0,ZS]
abbrev yU:List Value:=
 [ZS,ZS,ZS,ZS,ZS,ZS,ZS,ZS,ZS,ZS,ZS,ZS,ZS,ZS,ZS,ZS,ZS,ZS,ZS,ZS,ZS,ZS,ZS,ZS,ZS,ZS,ZS,ZS,ZS,ZS,ZS,ZS]
abbrev w3:List Value:=
 [ZS,Z0,Z0,Z0,ZS,ZS,ZF,Z0,Z0,Z0,ZS,Z0,Z0,ZS,ZF,Z0,Z0,Z0,ZS,Z0,Z0,ZS]
abbrev w9:List Value:=
 [ZS,Z0,Z0,Z0,ZS,ZS,ZF,Z0,Z0,Z0,ZS,Z0,Z0,ZS,ZF,Z0,Z0,Z0,ZS,Z0,Z0,ZS]
abbrev w8:List Value:=
 [ZS,Z0,Z0,ZS,ZS,ZF,Z0,Z0,Z0,ZS,Z0,Z0,ZS,ZF,Z0,Z0,Z0,ZS,Z0,Z0,ZS]
abbrev wO:List Value:=
 [ZS,Z0,Z0,ZS,ZS,ZF,Z0,Z0,Z0,ZS,Z0,Z0,ZS,ZF,Z0,Z0,Z0,ZS,Z0,Z0,ZS]
abbrev xg:List Value:=
 [Z0,Z0,Z0,ZF,ZF,ZF,Z0,ZS,Z0,Z0,Z0,ZF,ZF,ZF,Z0,ZS,Z0,Z0,Z0,ZF,ZF,ZF,Z0,ZS,Z0,Z0,Z0,ZF,ZF,ZF,Z0,ZS,Z0,Z0,Z0,ZF,ZF,ZF,Z0,ZS,Z0,Z0,Z0,ZF,ZF,ZF,Z0,ZS,Z0,Z0,Z0,ZF,ZF,ZF,Z0,ZS,Z0,Z0,Z0,ZF,ZF,ZF,Z0,ZS,Z0,Z0,Z0,ZF,ZF,ZF,Z0,ZS,Z0,Z0,Z0,ZF,ZF,ZF,Z0,ZS,Z0,Z0,Z0,ZF,ZF,ZF,Z0,ZS,Z0,Z0,Z0,ZF,ZF,ZF,Z0,ZS,Z0,Z0,Z0,ZF,ZF,ZF,Z0,ZS,Z0,Z0,Z0,ZF,ZF,ZF,Z0,ZS,Z0,Z0,Z0,ZF,ZF,ZF,Z0,ZS,Z0,Z0,Z0,ZF,ZF,ZF,Z0,ZS,Z0,Z0,Z0,ZF,ZF,ZF,Z0,ZS,Z0,Z0,Z0,ZF,ZF,ZF,Z0,ZS,Z0,Z0,Z0,ZF,ZF,ZF,Z0,ZS,Z0,Z0,Z0,ZF,ZF,ZF,Z0,ZS,Z0,Z0,Z0,ZF,ZF,ZF,Z0,ZS,Z0,Z0,Z0,ZF,ZF,ZF,Z0,ZS,Z0,Z0,Z0,ZF,ZF,ZF,Z0,ZS,Z0,Z0,Z0,ZF,ZF,ZF,Z0,ZS,Z0,Z0,Z0,ZF,ZF,ZF,Z0,ZS,Z0,Z0,Z0,ZF,ZF,ZF,Z0,ZS,Z0,Z0,Z0,ZF,ZF,ZF,Z0,ZS,Z0,Z0,Z0,ZF,ZF,ZF,Z0,ZS,Z0,Z0,Z0,ZF,ZF,ZF,Z0,ZS,Z0,Z0,Z0,ZF,ZF,ZF,Z0,ZS,Z0,Z0,Z0,ZF,ZF,ZF,Z0,ZS,Z0,Z0,Z0,ZF,ZF,ZF,Z0,ZS,ZF,ZF,ZF,ZF,ZF,ZF,ZF,ZF,ZF,ZF,ZF,ZS,ZS,Z0,ZS,ZS,ZS,ZS,ZS,ZS,ZS,ZS,ZS,ZS,ZS,ZS,ZS,ZS,ZS,ZS,ZS,ZS,ZS,ZS,ZS,ZS,ZS,ZS,ZS,ZS,ZS,ZS,ZS,ZS,ZS,ZS,ZS,ZS,ZS,ZS,ZS,ZS,ZS,ZF,Z0,Z0,Z0,ZS,Z0,Z0,Z0,ZS,Z0,Z0,ZF,ZF,ZS,Z0,Z0,Z0,ZS,ZS,ZF,Z0,Z0,Z0,ZS,Z0,Z0,ZS,ZF,Z0,Z0,Z0,ZS,Z0,Z0,ZS,ZS,Z0,Z0,ZS,ZS,ZF,Z0,Z0,Z0,ZS,Z0,Z0,ZS,ZF,Z0,Z0,Z0,ZS,Z0,Z0,ZS,Z0,ZS,ZF,ZF,ZF,ZF,ZF,ZS,ZS,ZS,ZS]
abbrev xx:List Value:=
 [Z0,Z0,Z0,ZF,ZF,ZF,Z0,ZS,Z0,Z0,Z0,ZF,ZF,ZF,Z0,ZS,Z0,Z0,Z0,ZF,ZF,ZF,Z0,ZS,Z0,Z0,Z0,ZF,ZF,ZF,Z0,ZS,Z0,Z0,Z0,ZF,ZF,ZF,Z0,ZS,Z0,Z0,Z0,ZF,ZF,ZF,Z0,ZS,Z0,Z0,Z0,ZF,ZF,ZF,Z0,ZS,Z0,Z0,Z0,ZF,ZF,ZF,Z0,ZS,Z0,Z0,Z0,ZF,ZF,ZF,Z0,ZS,Z0,Z0,Z0,ZF,ZF,ZF,Z0,ZS,Z0,Z0,Z0,ZF,ZF,ZF,Z0,ZS,Z0,Z0,Z0,ZF,ZF,ZF,Z0,ZS,Z0,Z0,Z0,ZF,ZF,ZF,Z0,ZS,Z0,Z0,Z0,ZF,ZF,ZF,Z0,ZS,Z0,Z0,Z0,ZF,ZF,ZF,Z0,ZS,Z0,Z0,Z0,ZF,ZF,ZF,Z0,ZS,Z0,Z0,Z0,ZF,ZF,ZF,Z0,ZS,Z0,Z0,Z0,ZF,ZF,ZF,Z0,ZS,Z0,Z0,Z0,ZF,ZF,ZF,Z0,ZS,Z0,Z0,Z0,ZF,ZF,ZF,Z0,ZS,Z0,Z0,Z0,ZF,ZF,ZF,Z0,ZS,Z0,Z0,Z0,ZF,ZF,ZF,Z0,ZS,Z0,Z0,Z0,ZF,ZF,ZF,Z0,ZS,Z0,Z0,Z0,ZF,ZF,ZF,Z0,ZS,Z0,Z0,Z0,ZF,ZF,ZF,Z0,ZS,Z0,Z0,Z0,ZF,ZF,ZF,Z0,ZS,Z0,Z0,Z0,ZF,ZF,ZF,Z0,ZS,Z0,Z0,Z0,ZF,ZF,ZF,Z0,ZS,Z0,Z0,Z0,ZF,ZF,ZF,Z0,ZS,Z0,Z0,Z0,ZF,ZF,ZF,Z0,ZS,Z0,Z0,Z0,ZF,ZF,ZF,Z0,ZS,Z0,Z0,Z0,ZF,ZF,ZF,Z0,ZS,ZF,ZF,ZF,ZF,ZF,ZF,ZF,ZF,ZF,ZF,ZF,ZS,ZS,Z0,ZS,ZS,ZS,ZS,ZS,ZS,ZS,ZS,ZS,ZS,ZS,ZS,ZS,ZS,ZS,ZS,ZS,ZS,ZS,ZS,ZS,ZS,ZS,ZS,ZS,ZS,ZS,ZS,ZS,ZS,ZS,ZS,ZS,ZS,ZS,ZS,ZS,ZS,ZS,ZF,Z0,Z0,Z0,ZS,Z0,Z0,Z0,ZS,Z0,Z0,ZF,ZF,ZS,Z0,Z0,Z0,ZS,ZS,ZF,Z0,Z0,Z0,ZS,Z0,Z0,ZS,ZF,Z0,Z0,Z0,ZS,Z0,Z0,ZS,ZS,Z0,Z0,ZS,ZS,ZF,Z0,Z0,Z0,ZS,Z0,Z0,ZS,ZF,Z0,Z0,Z0,ZS,Z0,Z0,ZS,Z0,ZS,ZF,ZF,ZF,ZF,ZF,ZS,ZS,ZS,ZS]
abbrev w_:List Value:=
 [Z0,Z0,Z0,ZF,ZF,ZF,Z0,ZS,Z0,Z0,Z0,ZF,ZF,ZF,Z0,ZS,Z0,Z0,Z0,ZF,ZF,ZF,Z0,ZS,Z0,Z0,Z0,ZF,ZF,ZF,Z0,ZS,Z0,Z0,Z0,ZF,ZF,ZF,Z0,ZS,Z0,Z0,Z0,ZF,ZF,ZF,Z0,ZS,Z0,Z0,Z0,ZF,ZF,ZF,Z0,ZS,Z0,Z0,Z0,ZF,ZF,ZF,Z0,ZS,Z0,Z0,Z0,ZF,ZF,ZF,Z0,ZS,Z0,Z0,Z0,ZF,ZF,ZF,Z0,ZS,Z0,Z0,Z0,ZF,ZF,ZF,Z0,ZS,Z0,Z0,Z0,ZF,ZF,ZF,Z0,ZS,Z0,Z0,Z0,ZF,ZF,ZF,Z0,ZS,Z0,Z0,Z0,ZF,ZF,ZF,Z0,ZS,Z0,Z0,Z0,ZF,ZF,ZF,Z0,ZS,Z0,Z0,Z0,ZF,ZF,ZF,Z0,ZS,Z0,Z0,Z0,ZF,ZF,ZF,Z0,ZS,Z0,Z0,Z0,ZF,ZF,ZF,Z0,ZS,Z0,Z0,Z0,ZF,ZF,ZF,Z0,ZS,Z0,Z0,Z0,ZF,ZF,ZF,Z0,ZS,Z0,Z0,Z0,ZF,ZF,ZF,Z0,ZS,Z0,Z0,Z0,ZF,ZF,ZF,Z0,ZS,Z0,Z0,Z0,ZF,ZF,ZF,Z0,ZS,Z0,Z0,Z0,ZF,ZF,ZF,Z0,ZS,Z0,Z0,Z0,ZF,ZF,ZF,Z0,ZS,Z0,Z0,Z0,ZF,ZF,ZF,Z0,ZS,Z0,Z0,Z0,ZF,ZF,ZF,Z0,ZS,Z0,Z0,Z0,ZF,ZF,ZF,Z0,ZS,Z0,Z0,Z0,ZF,ZF,ZF,Z0,ZS,Z0,Z0,Z0,ZF,ZF,ZF,Z0,ZS,Z0,Z0,Z0,ZF,ZF,ZF,Z0,ZS,Z0,Z0,Z0,ZF,ZF,ZF,Z0,ZS,ZF,ZF,ZF,ZF,ZF,ZF,ZF,ZF,ZF,ZF,ZF,ZS,ZS,Z0,ZS,ZS,ZS,ZS,ZS,ZS,ZS,ZS,ZS,ZS,ZS,ZS,ZS,ZS,ZS,ZS,ZS,ZS,ZS,ZS,ZS,ZS,ZS,ZS,ZS,ZS,ZS,ZS,ZS,ZS,ZS,ZS,ZS,ZS,ZS,ZS,ZS,ZS,ZS,ZF,Z0,Z0,Z0,ZS,Z0,Z0,Z0,ZS,Z0,Z0,ZF,ZF,ZS,Z0,Z0,Z0,ZS,ZS,ZF,Z0,Z0,Z0,ZS,Z0,Z0,ZS,ZF,Z0,Z0,Z0,ZS,Z0,Z0,ZS,ZS,Z0,Z0,ZS,ZS,ZF,Z0,Z0,Z0,ZS,Z0,Z0,ZS,ZF,Z0,Z0,Z0,ZS,Z0,Z0,ZS,Z0,ZS,ZF,ZF,ZF,ZF,ZF,ZS,ZS,ZS,ZS]
abbrev w4:List Value:=
 [Z0,Z0,Z0,ZF,ZF,ZF,Z0,ZS,Z0,Z0,Z0,ZF,ZF,ZF,Z0,ZS,Z0,Z0,Z0,ZF,ZF,ZF,Z0,ZS,Z0,Z0,Z0,ZF,ZF,ZF,Z0,ZS,Z0,Z0,Z0,ZF,ZF,ZF,Z0,ZS,Z0,Z0,Z0,ZF,ZF,ZF,Z0,ZS,Z0,Z0,Z0,ZF,ZF,ZF,Z0,ZS,Z0,Z0,Z0,ZF,ZF,ZF,Z0,ZS,Z0,Z0,Z0,ZF,ZF,ZF,Z0,ZS,Z0,Z0,Z0,ZF,ZF,ZF,Z0,ZS,Z0,Z0,Z0,ZF,ZF,ZF,Z0,ZS,Z0,Z0,Z0,ZF,ZF,ZF,Z0,ZS,Z0,Z0,Z0,ZF,ZF,ZF,Z0,ZS,Z0,Z0,Z0,ZF,ZF,ZF,Z0,ZS,Z0,Z0,Z0,ZF,ZF,ZF,Z0,ZS,Z0,Z0,Z0,ZF,ZF,ZF,Z0,ZS,Z0,Z0,Z0,ZF,ZF,ZF,Z0,ZS,Z0,Z0,Z0,ZF,ZF,ZF,Z0,ZS,Z0,Z0,Z0,ZF,ZF,ZF,Z0,ZS,Z0,Z0,Z0,ZF,ZF,ZF,Z0,ZS,Z0,Z0,Z0,ZF,ZF,ZF,Z0,ZS,Z0,Z0,Z0,ZF,ZF,ZF,Z0,ZS,Z0,Z0,Z0,ZF,ZF,ZF,Z0,ZS,Z0,Z0,Z0,ZF,ZF,ZF,Z0,ZS,Z0,Z0,Z0,ZF,ZF,ZF,Z0,ZS,Z0,Z0,Z0,ZF,ZF,ZF,Z0,ZS,Z0,Z0,Z0,ZF,ZF,ZF,Z0,ZS,Z0,Z0,Z0,ZF,ZF,ZF,Z0,ZS,Z0,Z0,Z0,ZF,ZF,ZF,Z0,ZS,Z0,Z0,Z0,ZF,ZF,ZF,Z0,ZS,Z0,Z0,Z0,ZF,ZF,ZF,Z0,ZS,Z0,Z0,Z0,ZF,ZF,ZF,Z0,ZS,ZF,ZF,ZF,ZF,ZF,ZF,ZF,ZF,ZF,ZF,ZF,ZS,ZS,Z0,ZS,ZS,ZS,ZS,ZS,ZS,ZS,ZS,ZS,ZS,ZS,ZS,ZS,ZS,ZS,ZS,ZS,ZS,ZS,ZS,ZS,ZS,ZS,ZS,ZS,ZS,ZS,ZS,ZS,ZS,ZS,ZS,ZS,ZS,ZS,ZS,ZS,ZS,ZS,ZF,Z0,Z0,Z0,ZS,Z0,Z0,Z0,ZS,Z0,Z0,ZF,ZF,ZS,Z0,Z0,Z0,ZS,ZS,ZF,Z0,Z0,Z0,ZS,Z0,Z0,ZS,ZF,Z0,Z0,Z0,ZS,Z0,Z0,ZS,ZS,Z0,Z0,ZS,ZS,ZF,Z0,Z0,Z0,ZS,Z0,Z0,ZS,ZF,Z0,Z0,Z0,ZS,Z0,Z0,ZS,Z0,ZS,ZF,ZF,ZF,ZF,ZF,ZS,ZS,ZS,ZS]
abbrev xm:List Value:=
 [ZF,ZF,ZF,Z0,ZF,ZF,ZF,Z0,ZF,ZF,ZF,Z0,ZF,ZF,ZF,Z0,ZF,ZF,ZF,Z0,ZF,ZF,ZF,Z0,ZF,ZF,ZF,Z0,ZF,ZF,ZF,Z0,ZF,ZF,ZF,Z0,ZF,ZF,ZF,Z0,ZF,ZF,ZF,Z0,ZF,ZF,ZF,Z0,ZF,ZF,ZF,Z0,ZF,ZF,ZF,Z0,ZF,ZF,ZF,Z0,ZF,ZF,ZF,Z0,ZF,ZF,ZF,Z0,ZF,ZF,ZF,Z0,ZF,ZF,ZF,Z0,ZF,ZF,ZF,Z0,ZF,ZF,ZF,Z0,ZF,ZF,ZF,Z0,ZF,ZF,ZF,Z0,ZF,ZF,ZF,Z0,ZF,ZF,ZF,Z0,ZF,ZF,ZF,Z0,ZF,ZF,ZF,Z0,ZF,ZF,ZF,Z0,ZF,ZF,ZF,Z0,ZF,ZF,ZF,Z0,ZF,ZF,ZF,Z0,ZF,ZF,ZF,Z0]
abbrev xK:List Value:=
 [ZF,ZF,ZF,Z0,ZF,ZF,ZF,Z0,ZF,ZF,ZF,Z0,ZF,ZF,ZF,Z0,ZF,ZF,ZF,Z0,ZF,ZF,ZF,Z0,ZF,ZF,ZF,Z0,ZF,ZF,ZF,Z0,ZF,ZF,ZF,Z0,ZF,ZF,ZF,Z0,ZF,ZF,ZF,Z0,ZF,ZF,ZF,Z0,ZF,ZF,ZF,Z0,ZF,ZF,ZF,Z0,ZF,ZF,ZF,Z0,ZF,ZF,ZF,Z0,ZF,ZF,ZF,Z0,ZF,ZF,ZF,Z0,ZF,ZF,ZF,Z0,ZF,ZF,ZF,Z0,ZF,ZF,ZF,Z0,ZF,ZF,ZF,Z0,ZF,ZF,ZF,Z0,ZF,ZF,ZF,Z0,ZF,ZF,ZF,Z0,ZF,ZF,ZF,Z0,ZF,ZF,ZF,Z0,ZF,ZF,ZF,Z0,ZF,ZF,ZF,Z0,ZF,ZF,ZF,Z0,ZF,ZF,ZF,Z0,ZF,ZF,ZF,Z0]
abbrev wN:List Value:=
 [Z0,Z0,.string ⟨#[]⟩,Z0,Z0,Z0,.string ⟨#[]⟩,Z0,Z0,Z0,.string ⟨#[]⟩,Z0,Z0,Z0,.string ⟨#[]⟩,Z0,Z0,Z0,.string ⟨#[]⟩,Z0,Z0,Z0,.string ⟨#[]⟩,Z0,Z0,Z0,.string ⟨#[]⟩,Z0,Z0,Z0,.string ⟨#[]⟩,Z0,Z0,Z0,.string ⟨#[]⟩,Z0,Z0,Z0,.string ⟨#[]⟩,Z0,Z0,Z0,.string ⟨#[]⟩,Z0,Z0,Z0,.string ⟨#[]⟩,Z0,Z0,Z0,.string ⟨#[]⟩,Z0,Z0,Z0,.string ⟨#[]⟩,Z0,Z0,Z0,.string ⟨#[]⟩,Z0,Z0,Z0,.string ⟨#[]⟩,Z0,Z0,Z0,.string ⟨#[]⟩,Z0,Z0,Z0,.string ⟨#[]⟩,Z0,Z0,Z0,.string ⟨#[]⟩,Z0,Z0,Z0,.string ⟨#[]⟩,Z0,Z0,Z0,.string ⟨#[]⟩,Z0,Z0,Z0,.string ⟨#[]⟩,Z0,Z0,Z0,.string ⟨#[]⟩,Z0,Z0,Z0,.string ⟨#[]⟩,Z0,Z0,Z0,.string ⟨#[]⟩,Z0,Z0,Z0,.string ⟨#[]⟩,Z0,Z0,Z0,.string ⟨#[]⟩,Z0,Z0,Z0,.string ⟨#[]⟩,Z0]
set_option maxHeartbeats 4000000 in
set_option maxRecDepth 100000 in
def aT:dy:=
 [(2,⟨.int .i64,1,[.int .i64 0],[],8⟩),
  (3,⟨.int .i64,1,[.int .i64 0],[],8⟩),
  (4,⟨.bool,1,[.bool false],[],1⟩),
  (5,⟨.int .u8,1,[.int .u8 0],[],1⟩),
  (9,⟨.str,1,[.string ⟨#[]⟩],[],16⟩),
  (12,⟨.int .u64,1,[.int .u64 0],[],8⟩),
  (13,⟨.struct,2,[.string ⟨#[]⟩,.int .u64 0],[(0,1,false),(1,1,false)],24⟩),
  (21,⟨.int .i32,1,[.int .i32 0],[],4⟩),
  (22,⟨.slice 5,1,[.slice none 0 0],[],24⟩),
  (23,⟨.struct,8,[.int .i64 0,.int .i64 0,.int .i64 0,.bool false,.bool false,.bool false,.int .i64 0,.slice none 0 0],[(0,1,false),(1,1,false),(2,1,false),(3,1,false),(4,1,false),(5,1,false),(6,1,false),(7,1,false)],64⟩),
  (24,⟨.struct,8,[.int .i64 0,.int .i64 0,.int .i64 0,.bool false,.bool false,.bool false,.int .i64 0,.slice none 0 0],[(0,1,false),(1,1,false),(2,1,false),(3,1,false),(4,1,false),(5,1,false),(6,1,false),(7,1,false)],64⟩),
  (25,⟨.arr 32 24,256,yA,[],2048⟩),
  (26,⟨.arr 11 4,11,[.bool false,.bool false,.bool false,.bool false,.bool false,.bool false,.bool false,.bool false,.bool false,.bool false,.bool false],[],11⟩),
  (27,⟨.slice 206,1,[.slice none 0 0],[],24⟩),
  (28,⟨.slice 154,1,[.slice none 0 0],[],24⟩),
  (29,⟨.struct,2,[.slice none 0 0,.slice none 0 0],[(0,1,false),(1,1,false)],48⟩),
  (30,⟨.struct,2,[.slice none 0 0,.slice none 0 0],[(0,1,false),(1,1,false)],48⟩),
  (31,⟨.slice 158,1,[.slice none 0 0],[],24⟩),
  (32,⟨.struct,2,[.int .i64 0,.slice none 0 0],[(0,1,false),(1,1,false)],32⟩),
  (33,⟨.struct,2,[.int .i64 0,.slice none 0 0],[(0,1,false),(1,1,false)],32⟩),
  (34,⟨.slice 164,1,[.slice none 0 0],[],24⟩),
  (35,⟨.slice 164,1,[.slice none 0 0],[],24⟩),
  (36,⟨.slice 167,1,[.slice none 0 0],[],24⟩),
  (37,⟨.slice 167,1,[.slice none 0 0],[],24⟩),
  (38,⟨.slice 3,1,[.slice none 0 0],[],24⟩),
  (39,⟨.slice 3,1,[.slice none 0 0],[],24⟩),
  (40,⟨.slice 22,1,[.slice none 0 0],[],24⟩),
  (41,⟨.struct,1,[.slice none 0 0],[(0,1,false)],24⟩),
  (42,⟨.struct,1,[.slice none 0 0],[(0,1,false)],24⟩),
  (43,⟨.slice 135,1,[.slice none 0 0],[],24⟩),
  (44,⟨.slice 135,1,[.slice none 0 0],[],24⟩),
  (45,⟨.arr 32 44,32,yI,[],768⟩),
  (46,⟨.slice 133,1,[.slice none 0 0],[],24⟩),
  (47,⟨.slice 133,1,[.slice none 0 0],[],24⟩),
  (48,⟨.struct,4,[.int .i64 0,.int .i64 0,.int .i64 0,.slice none 0 0],[(0,1,false),(1,1,false),(2,1,false),(3,1,false)],48⟩),
  (49,⟨.struct,4,[.int .i64 0,.int .i64 0,.int .i64 0,.slice none 0 0],[(0,1,false),(1,1,false),(2,1,false),(3,1,false)],48⟩),
  (50,⟨.struct,3,[.int .i64 0,.int .i64 0,.slice none 0 0],[(0,1,false),(1,1,false),(2,1,false)],40⟩),
  (51,⟨.struct,3,[.int .i64 0,.int .i64 0,.slice none 0 0],[(0,1,false),(1,1,false),(2,1,false)],40⟩),
  (52,⟨.struct,9,[.bool false,.int .i64 0,.int .i64 0,.int .i64 0,.slice none 0 0,.int .i64 0,.int .i64 0,.int .i64 0,.slice none 0 0],[(0,1,false),(1,4,true),(5,1,false),(6,3,true)],104⟩),
  (53,⟨.struct,9,[.bool false,.int .i64 0,.int .i64 0,.int .i64 0,.slice none 0 0,.int .i64 0,.int .i64 0,.int .i64 0,.slice none 0 0],[(0,1,false),(1,4,true),(5,1,false),(6,3,true)],104⟩),
  (54,⟨.struct,10,[.slice none 0 0,.bool false,.int .i64 0,.int .i64 0,.int .i64 0,.slice none 0 0,.int .i64 0,.int .i64 0,.int .i64 0,.slice none 0 0],[(0,1,false),(1,9,true)],128⟩),
  (55,⟨.struct,10,[.slice none 0 0,.bool false,.int .i64 0,.int .i64 0,.int .i64 0,.slice none 0 0,.int .i64 0,.int .i64 0,.int .i64 0,.slice none 0 0],[(0,1,false),(1,9,true)],128⟩),
  (56,⟨.struct,4,[.int .i64 0,.int .i64 0,.bool false,.bool false],[(0,1,false),(1,1,false),(2,1,false),(3,1,false)],24⟩),
  (57,⟨.struct,4,[.int .i64 0,.int .i64 0,.bool false,.bool false],[(0,1,false),(1,1,false),(2,1,false),(3,1,false)],24⟩),
  (58,⟨.slice 174,1,[.slice none 0 0],[],24⟩),
  (59,⟨.struct,24,yD,[(0,1,false),(1,1,false),(2,1,false),(3,1,false),(4,1,false),(5,1,false),(6,9,true),(15,9,true)],304⟩),
  (60,⟨.struct,24,yv,[(0,1,false),(1,1,false),(2,1,false),(3,1,false),(4,1,false),(5,1,false),(6,9,true),(15,9,true)],304⟩),
  (61,⟨.struct,23,yH,[(0,1,false),(1,1,false),(2,1,false),(3,1,false),(4,1,false),(5,9,true),(14,9,true)],296⟩),
  (62,⟨.struct,23,y6,[(0,1,false),(1,1,false),(2,1,false),(3,1,false),(4,1,false),(5,9,true),(14,9,true)],296⟩),
  (63,⟨.slice 177,1,[.slice none 0 0],[],24⟩),
  (64,⟨.struct,2,[.int .i64 0,.slice none 0 0],[(0,1,false),(1,1,false)],32⟩),
  (65,⟨.struct,2,[.int .i64 0,.slice none 0 0],[(0,1,false),(1,1,false)],32⟩),
  (66,⟨.arr 5 4,5,[.bool false,.bool false,.bool false,.bool false,.bool false],[],5⟩),
  (67,⟨.slice 180,1,[.slice none 0 0],[],24⟩),
  (68,⟨.struct,6,[.bool false,.bool false,.bool false,.bool false,.bool false,.slice none 0 0],[(0,5,true),(5,1,false)],32⟩),
  (69,⟨.struct,6,[.bool false,.bool false,.bool false,.bool false,.bool false,.slice none 0 0],[(0,5,true),(5,1,false)],32⟩),
  (70,⟨.slice 140,1,[.slice none 0 0],[],24⟩),
  (71,⟨.slice 222,1,[.slice none 0 0],[],24⟩),
  (72,⟨.slice 171,1,[.slice none 0 0],[],24⟩),
  (73,⟨.struct,380,yQ,[(0,256,true),(256,11,true),(267,2,true),(269,2,true),(271,1,false),(272,1,false),(273,1,false),(274,1,true),(275,32,true),(307,1,false),(308,10,true),(318,4,true),(322,24,true),(346,23,true),(369,2,true),(371,6,true),(377,1,false),(378,1,false),(379,1,false)],3920⟩),
  (74,⟨.struct,380,yB,[(0,256,true),(256,11,true),(267,2,true),(269,2,true),(271,1,false),(272,1,false),(273,1,false),(274,1,true),(275,32,true),(307,1,false),(308,10,true),(318,4,true),(322,24,true),(346,23,true),(369,2,true),(371,6,true),(377,1,false),(378,1,false),(379,1,false)],3920⟩),
  (77,⟨.struct,8,[.int .i64 0,.int .i64 0,.int .i64 0,.bool false,.bool false,.bool false,.int .i64 0,.slice none 0 0],[(0,1,false),(1,1,false),(2,1,false),(3,1,false),(4,1,false),(5,1,false),(6,1,false),(7,1,false)],64⟩),
  (78,⟨.arr 32 77,256,yJ,[],2048⟩),
  (79,⟨.slice 153,1,[.slice none 0 0],[],24⟩),
  (80,⟨.struct,2,[.slice none 0 0,.slice none 0 0],[(0,1,false),(1,1,false)],48⟩),
  (81,⟨.struct,2,[.slice none 0 0,.slice none 0 0],[(0,1,false),(1,1,false)],48⟩),
  (82,⟨.slice 161,1,[.slice none 0 0],[],24⟩),
  (83,⟨.struct,2,[.int .i64 0,.slice none 0 0],[(0,1,false),(1,1,false)],32⟩),
  (84,⟨.struct,2,[.int .i64 0,.slice none 0 0],[(0,1,false),(1,1,false)],32⟩),
  (85,⟨.slice 163,1,[.slice none 0 0],[],24⟩),
  (86,⟨.slice 163,1,[.slice none 0 0],[],24⟩),
  (87,⟨.slice 166,1,[.slice none 0 0],[],24⟩),
  (88,⟨.slice 166,1,[.slice none 0 0],[],24⟩),
  (89,⟨.slice 3,1,[.slice none 0 0],[],24⟩),
  (90,⟨.struct,1,[.slice none 0 0],[(0,1,false)],24⟩),
  (91,⟨.slice 136,1,[.slice none 0 0],[],24⟩),
  (92,⟨.slice 136,1,[.slice none 0 0],[],24⟩),
  (93,⟨.arr 32 92,32,yU,[],768⟩),
  (94,⟨.slice 168,1,[.slice none 0 0],[],24⟩),
  (95,⟨.slice 168,1,[.slice none 0 0],[],24⟩),
  (96,⟨.struct,4,[.int .i64 0,.int .i64 0,.int .i64 0,.slice none 0 0],[(0,1,false),(1,1,false),(2,1,false),(3,1,false)],48⟩),
  (97,⟨.struct,3,[.int .i64 0,.int .i64 0,.slice none 0 0],[(0,1,false),(1,1,false),(2,1,false)],40⟩),
  (98,⟨.struct,9,[.bool false,.int .i64 0,.int .i64 0,.int .i64 0,.slice none 0 0,.int .i64 0,.int .i64 0,.int .i64 0,.slice none 0 0],[(0,1,false),(1,4,true),(5,1,false),(6,3,true)],104⟩),
  (99,⟨.struct,9,[.bool false,.int .i64 0,.int .i64 0,.int .i64 0,.slice none 0 0,.int .i64 0,.int .i64 0,.int .i64 0,.slice none 0 0],[(0,1,false),(1,4,true),(5,1,false),(6,3,true)],104⟩),
  (100,⟨.struct,10,[.slice none 0 0,.bool false,.int .i64 0,.int .i64 0,.int .i64 0,.slice none 0 0,.int .i64 0,.int .i64 0,.int .i64 0,.slice none 0 0],[(0,1,false),(1,9,true)],128⟩),
  (101,⟨.struct,10,[.slice none 0 0,.bool false,.int .i64 0,.int .i64 0,.int .i64 0,.slice none 0 0,.int .i64 0,.int .i64 0,.int .i64 0,.slice none 0 0],[(0,1,false),(1,9,true)],128⟩),
  (102,⟨.struct,4,[.int .i64 0,.int .i64 0,.bool false,.bool false],[(0,1,false),(1,1,false),(2,1,false),(3,1,false)],24⟩),
  (103,⟨.slice 173,1,[.slice none 0 0],[],24⟩),
  (104,⟨.struct,4,[.int .i64 0,.int .i64 0,.int .i64 0,.slice none 0 0],[(0,1,false),(1,1,false),(2,1,false),(3,1,false)],48⟩),
  (105,⟨.struct,3,[.int .i64 0,.int .i64 0,.slice none 0 0],[(0,1,false),(1,1,false),(2,1,false)],40⟩),
  (106,⟨.struct,8,[.bool false,.int .i64 0,.int .i64 0,.int .i64 0,.slice none 0 0,.int .i64 0,.int .i64 0,.slice none 0 0],[(0,1,false),(1,4,true),(5,3,true)],96⟩),
  (107,⟨.struct,8,[.bool false,.int .i64 0,.int .i64 0,.int .i64 0,.slice none 0 0,.int .i64 0,.int .i64 0,.slice none 0 0],[(0,1,false),(1,4,true),(5,3,true)],96⟩),
  (108,⟨.struct,22,w3,[(0,1,false),(1,1,false),(2,1,false),(3,1,false),(4,1,false),(5,1,false),(6,8,true),(14,8,true)],288⟩),
  (109,⟨.struct,22,w9,[(0,1,false),(1,1,false),(2,1,false),(3,1,false),(4,1,false),(5,1,false),(6,8,true),(14,8,true)],288⟩),
  (110,⟨.struct,4,[.int .i64 0,.int .i64 0,.int .i64 0,.slice none 0 0],[(0,1,false),(1,1,false),(2,1,false),(3,1,false)],48⟩),
  (111,⟨.struct,3,[.int .i64 0,.int .i64 0,.slice none 0 0],[(0,1,false),(1,1,false),(2,1,false)],40⟩),
  (112,⟨.struct,8,[.bool false,.int .i64 0,.int .i64 0,.int .i64 0,.slice none 0 0,.int .i64 0,.int .i64 0,.slice none 0 0],[(0,1,false),(1,4,true),(5,3,true)],96⟩),
  (113,⟨.struct,8,[.bool false,.int .i64 0,.int .i64 0,.int .i64 0,.slice none 0 0,.int .i64 0,.int .i64 0,.slice none 0 0],[(0,1,false),(1,4,true),(5,3,true)],96⟩),
  (114,⟨.struct,21,w8,[(0,1,false),(1,1,false),(2,1,false),(3,1,false),(4,1,false),(5,8,true),(13,8,true)],280⟩),
  (115,⟨.struct,21,wO,[(0,1,false),(1,1,false),(2,1,false),(3,1,false),(4,1,false),(5,8,true),(13,8,true)],280⟩),
  (116,⟨.slice 176,1,[.slice none 0 0],[],24⟩),
  (117,⟨.struct,2,[.int .i64 0,.slice none 0 0],[(0,1,false),(1,1,false)],32⟩),
  (118,⟨.struct,2,[.int .i64 0,.slice none 0 0],[(0,1,false),(1,1,false)],32⟩),
  (119,⟨.slice 179,1,[.slice none 0 0],[],24⟩),
  (120,⟨.struct,6,[.bool false,.bool false,.bool false,.bool false,.bool false,.slice none 0 0],[(0,5,true),(5,1,false)],32⟩),
  (121,⟨.struct,6,[.bool false,.bool false,.bool false,.bool false,.bool false,.slice none 0 0],[(0,5,true),(5,1,false)],32⟩),
  (122,⟨.slice 170,1,[.slice none 0 0],[],24⟩),
  (123,⟨.struct,376,xg,[(0,256,true),(256,11,true),(267,2,true),(269,2,true),(271,1,false),(272,1,false),(273,1,false),(274,1,true),(275,32,true),(307,1,false),(308,10,true),(318,4,true),(322,22,true),(344,21,true),(365,2,true),(367,6,true),(373,1,false),(374,1,false),(375,1,false)],3888⟩),
  (124,⟨.struct,376,xx,[(0,256,true),(256,11,true),(267,2,true),(269,2,true),(271,1,false),(272,1,false),(273,1,false),(274,1,true),(275,32,true),(307,1,false),(308,10,true),(318,4,true),(322,22,true),(344,21,true),(365,2,true),(367,6,true),(373,1,false),(374,1,false),(375,1,false)],3888⟩),
  (130,⟨.arr 2 5,2,[.int .u8 0,.int .u8 0],[],2⟩),
  (132,⟨.struct,4,[.int .i64 0,.int .i64 0,.int .i64 0,.bool false],[(0,1,false),(1,1,false),(2,1,false),(3,1,false)],32⟩),
  (133,⟨.struct,4,[.int .i64 0,.int .i64 0,.int .i64 0,.bool false],[(0,1,false),(1,1,false),(2,1,false),(3,1,false)],32⟩),
  (134,⟨.struct,3,[.int .i64 0,.int .i64 0,.bool false],[(0,1,false),(1,1,false),(2,1,false)],24⟩),
  (135,⟨.struct,3,[.int .i64 0,.int .i64 0,.bool false],[(0,1,false),(1,1,false),(2,1,false)],24⟩),
  (136,⟨.struct,3,[.int .i64 0,.int .i64 0,.bool false],[(0,1,false),(1,1,false),(2,1,false)],24⟩),
  (138,⟨.arr 3 3,3,[.int .i64 0,.int .i64 0,.int .i64 0],[],24⟩),
  (139,⟨.struct,8,[.int .i64 0,.int .i64 0,.int .i64 0,.int .i64 0,.int .i64 0,.int .i64 0,.int .i64 0,.slice none 0 0],[(0,1,false),(1,1,false),(2,1,false),(3,3,true),(6,1,false),(7,1,false)],80⟩),
  (140,⟨.struct,8,[.int .i64 0,.int .i64 0,.int .i64 0,.int .i64 0,.int .i64 0,.int .i64 0,.int .i64 0,.slice none 0 0],[(0,1,false),(1,1,false),(2,1,false),(3,3,true),(6,1,false),(7,1,false)],80⟩),
  (142,⟨.ptr 200,1,[.pointer none],[],8⟩),
  (152,⟨.struct,3,[.int .i64 0,.int .i64 0,.int .i64 0],[(0,1,false),(1,1,false),(2,1,false)],24⟩),
  (153,⟨.struct,3,[.int .i64 0,.int .i64 0,.int .i64 0],[(0,1,false),(1,1,false),(2,1,false)],24⟩),
  (154,⟨.struct,3,[.int .i64 0,.int .i64 0,.int .i64 0],[(0,1,false),(1,1,false),(2,1,false)],24⟩),
  (155,⟨.struct,3,[.int .i64 0,.int .i64 0,.int .i64 0],[(0,1,false),(1,1,false),(2,1,false)],24⟩),
  (156,⟨.struct,3,[.int .i64 0,.int .i64 0,.int .i64 0],[(0,1,false),(1,1,false),(2,1,false)],24⟩),
  (157,⟨.struct,6,[.int .i64 0,.int .i64 0,.int .i64 0,.int .i64 0,.int .i64 0,.int .i64 0],[(0,1,false),(1,1,false),(2,1,false),(3,3,true)],48⟩),
  (158,⟨.struct,6,[.int .i64 0,.int .i64 0,.int .i64 0,.int .i64 0,.int .i64 0,.int .i64 0],[(0,1,false),(1,1,false),(2,1,false),(3,3,true)],48⟩),
  (159,⟨.struct,3,[.int .i64 0,.int .i64 0,.int .i64 0],[(0,1,false),(1,1,false),(2,1,false)],24⟩),
  (160,⟨.struct,6,[.int .i64 0,.int .i64 0,.int .i64 0,.int .i64 0,.int .i64 0,.int .i64 0],[(0,1,false),(1,1,false),(2,1,false),(3,3,true)],48⟩),
  (161,⟨.struct,6,[.int .i64 0,.int .i64 0,.int .i64 0,.int .i64 0,.int .i64 0,.int .i64 0],[(0,1,false),(1,1,false),(2,1,false),(3,3,true)],48⟩),
  (162,⟨.struct,4,[.int .i64 0,.int .i64 0,.int .i64 0,.int .i64 0],[(0,1,false),(1,1,false),(2,1,false),(3,1,false)],32⟩),
  (163,⟨.struct,4,[.int .i64 0,.int .i64 0,.int .i64 0,.int .i64 0],[(0,1,false),(1,1,false),(2,1,false),(3,1,false)],32⟩),
  (164,⟨.struct,4,[.int .i64 0,.int .i64 0,.int .i64 0,.int .i64 0],[(0,1,false),(1,1,false),(2,1,false),(3,1,false)],32⟩),
  (165,⟨.struct,3,[.int .i64 0,.int .i64 0,.int .i64 0],[(0,1,false),(1,1,false),(2,1,false)],24⟩),
  (166,⟨.struct,3,[.int .i64 0,.int .i64 0,.int .i64 0],[(0,1,false),(1,1,false),(2,1,false)],24⟩),
  (167,⟨.struct,3,[.int .i64 0,.int .i64 0,.int .i64 0],[(0,1,false),(1,1,false),(2,1,false)],24⟩),
  (168,⟨.struct,4,[.int .i64 0,.int .i64 0,.int .i64 0,.bool false],[(0,1,false),(1,1,false),(2,1,false),(3,1,false)],32⟩),
  (169,⟨.struct,3,[.int .i64 0,.int .i64 0,.int .i64 0],[(0,1,false),(1,1,false),(2,1,false)],24⟩),
  (170,⟨.struct,3,[.int .i64 0,.int .i64 0,.int .i64 0],[(0,1,false),(1,1,false),(2,1,false)],24⟩),
  (171,⟨.struct,3,[.int .i64 0,.int .i64 0,.int .i64 0],[(0,1,false),(1,1,false),(2,1,false)],24⟩),
  (172,⟨.struct,2,[.int .i64 0,.slice none 0 0],[(0,1,false),(1,1,false)],32⟩),
  (173,⟨.struct,2,[.int .i64 0,.slice none 0 0],[(0,1,false),(1,1,false)],32⟩),
  (174,⟨.struct,2,[.int .i64 0,.slice none 0 0],[(0,1,false),(1,1,false)],32⟩),
  (175,⟨.struct,2,[.int .i64 0,.int .i64 0],[(0,1,false),(1,1,false)],16⟩),
  (176,⟨.struct,2,[.int .i64 0,.int .i64 0],[(0,1,false),(1,1,false)],16⟩),
  (177,⟨.struct,2,[.int .i64 0,.int .i64 0],[(0,1,false),(1,1,false)],16⟩),
  (178,⟨.struct,4,[.int .i64 0,.int .i64 0,.int .i64 0,.slice none 0 0],[(0,1,false),(1,1,false),(2,1,false),(3,1,false)],48⟩),
  (179,⟨.struct,4,[.int .i64 0,.int .i64 0,.int .i64 0,.slice none 0 0],[(0,1,false),(1,1,false),(2,1,false),(3,1,false)],48⟩),
  (180,⟨.struct,4,[.int .i64 0,.int .i64 0,.int .i64 0,.slice none 0 0],[(0,1,false),(1,1,false),(2,1,false),(3,1,false)],48⟩),
  (182,⟨.other,1,[.nilFunc],[],8⟩),
  (183,⟨.struct,2,[.string ⟨#[]⟩,.nilFunc],[(0,1,false),(1,1,false)],24⟩),
  (184,⟨.struct,2,[.string ⟨#[]⟩,.nilFunc],[(0,1,false),(1,1,false)],24⟩),
  (185,⟨.slice 184,1,[.slice none 0 0],[],24⟩),
  (187,⟨.struct,376,w_,[(0,376,true)],3888⟩),
  (188,⟨.struct,376,w4,[(0,376,true)],3888⟩),
  (189,⟨.int .i64,1,[.int .i64 0],[],8⟩),
  (196,⟨.ptr 124,1,[.pointer none],[],8⟩),
  (199,⟨.struct,1,[.pointer none],[(0,1,false)],8⟩),
  (200,⟨.struct,1,[.pointer none],[(0,1,false)],8⟩),
  (204,⟨.arr 4 3,4,[.int .i64 0,.int .i64 0,.int .i64 0,.int .i64 0],[],32⟩),
  (205,⟨.struct,9,[.int .i64 0,.int .i64 0,.int .i64 0,.int .i64 0,.int .i64 0,.int .i64 0,.int .i64 0,.int .i64 0,.slice none 0 0],[(0,1,false),(1,1,false),(2,1,false),(3,1,false),(4,4,true),(8,1,false)],88⟩),
  (206,⟨.struct,9,[.int .i64 0,.int .i64 0,.int .i64 0,.int .i64 0,.int .i64 0,.int .i64 0,.int .i64 0,.int .i64 0,.slice none 0 0],[(0,1,false),(1,1,false),(2,1,false),(3,1,false),(4,4,true),(8,1,false)],88⟩),
  (214,⟨.ptr 22,1,[.pointer none],[],8⟩),
  (215,⟨.slice 214,1,[.slice none 0 0],[],24⟩),
  (221,⟨.struct,6,[.int .i64 0,.int .i64 0,.int .i64 0,.int .i64 0,.int .i64 0,.bool false],[(0,1,false),(1,1,false),(2,1,false),(3,1,false),(4,1,false),(5,1,false)],48⟩),
  (222,⟨.struct,6,[.int .i64 0,.int .i64 0,.int .i64 0,.int .i64 0,.int .i64 0,.bool false],[(0,1,false),(1,1,false),(2,1,false),(3,1,false),(4,1,false),(5,1,false)],48⟩),
  (226,⟨.slice 229,1,[.slice none 0 0],[],24⟩),
  (228,⟨.struct,4,[.int .i64 0,.int .i64 0,.int .i64 0,.slice none 0 0],[(0,3,true),(3,1,false)],48⟩),
  (229,⟨.struct,4,[.int .i64 0,.int .i64 0,.int .i64 0,.slice none 0 0],[(0,3,true),(3,1,false)],48⟩),
  (244,⟨.struct,4,[.bool false,.bool false,.bool false,.int .i64 0],[(0,1,false),(1,1,false),(2,1,false),(3,1,false)],16⟩),
  (245,⟨.struct,4,[.bool false,.bool false,.bool false,.int .i64 0],[(0,1,false),(1,1,false),(2,1,false),(3,1,false)],16⟩),
  (246,⟨.arr 32 245,128,xm,[],512⟩),
  (273,⟨.slice 4,1,[.slice none 0 0],[],24⟩),
  (274,⟨.struct,4,[.bool false,.bool false,.bool false,.int .i64 0],[(0,1,false),(1,1,false),(2,1,false),(3,1,false)],16⟩),
  (275,⟨.struct,4,[.bool false,.bool false,.bool false,.int .i64 0],[(0,1,false),(1,1,false),(2,1,false),(3,1,false)],16⟩),
  (276,⟨.arr 32 275,128,xK,[],512⟩),
  (286,⟨.slice 229,1,[.slice none 0 0],[],24⟩),
  (290,⟨.ptr 84,1,[.pointer none],[],8⟩),
  (320,⟨.map 153 3,1,[.map none],[],8⟩),
  (322,⟨.map 3 159,1,[.map none],[],8⟩),
  (323,⟨.map 325 4,1,[.map none],[],8⟩),
  (324,⟨.struct,4,[.int .i64 0,.int .i64 0,.int .i64 0,.int .i64 0],[(0,1,false),(1,3,true)],32⟩),
  (325,⟨.struct,4,[.int .i64 0,.int .i64 0,.int .i64 0,.int .i64 0],[(0,1,false),(1,3,true)],32⟩),
  (338,⟨.struct,4,[.int .i64 0,.int .i64 0,.string ⟨#[]⟩,.int .i64 0],[(0,1,false),(1,1,false),(2,1,false),(3,1,false)],40⟩),
  (339,⟨.struct,4,[.int .i64 0,.int .i64 0,.string ⟨#[]⟩,.int .i64 0],[(0,1,false),(1,1,false),(2,1,false),(3,1,false)],40⟩),
  (340,⟨.arr 28 339,112,wN,[],1120⟩),
  (342,⟨.ptr 275,1,[.pointer none],[],8⟩),
  (346,⟨.ptr 286,1,[.pointer none],[],8⟩),
  (360,⟨.int .u64,1,[.int .u64 0],[],8⟩),
  (365,⟨.int .i64,1,[.int .i64 0],[],8⟩),
  (372,⟨.int .u32,1,[.int .u32 0],[],4⟩),
  (374,⟨.int .u64,1,[.int .u64 0],[],8⟩),
  (376,⟨.arr 5 3,5,[.int .i64 0,.int .i64 0,.int .i64 0,.int .i64 0,.int .i64 0],[],40⟩),
  (377,⟨.int .u64,1,[.int .u64 0],[],8⟩),
  (381,⟨.ptr 3,1,[.pointer none],[],8⟩),
  (383,⟨.ptr 377,1,[.pointer none],[],8⟩),
  (396,⟨.ptr 5,1,[.pointer none],[],8⟩)]
set_option maxHeartbeats 4000000 in
set_option maxRecDepth 100000 in
theorem ae:bt Tryz.prog aT:=pO (by kernel_rfl)
theorem mixed:Tryz.prog.follows .mixedOrders=true:=by kernel_rfl
set_option maxRecDepth 100000
set_option maxHeartbeats 4000000
set_option linter.unusedVariables false
set_option linter.unusedSimpArgs false
theorem m5 (p f:Int) (w:Bool):ah Tryz.prog 171 [.agg ⟨[.int .i64 p,.int .i64 f,.bool w]⟩] (fun _=>True) (fun v F=>v = .bool (decide (0≤p∧p<32∧0≤f∧f<96))):=by
 refine ah.aK ae Tryz.func171 rfl (by decide) (n:=Tryz.f171.ntmps - 1) rfl rfl fun w0 av=>?_
 conv=>whnf
 repeat (refine aa.of ?_;conv=>whnf)
 intro b1
 conv=>whnf
 repeat (refine aa.of ?_;conv=>whnf)
 exact⟨_,ao.refl _,by congr 1;rw[Bool.eq_iff_iff];simp[aI,au,aJ,aH,aO,aN,and_assoc]⟩
theorem mL (a:Int):ah Tryz.prog 244 [.int .i64 a] (fun _=>True) (fun v F=>v = .bool false):=by
 refine ah.aK ae Tryz.func244 rfl (by decide) (n:=Tryz.f244.ntmps - 1) rfl rfl fun w0 av=>?_
 conv=>whnf
 repeat (refine aa.of ?_;conv=>whnf)
 exact⟨_,ao.refl _,by simp[aN]⟩
def iY (a b:Int):Int:=if a<b then -1 else if b<a then 1 else 0
theorem eb (a b:Int):ah Tryz.prog 227 [.int .i64 a,.int .i64 b] (fun _=>True) (fun v F=>v = .int .i64 (iY a b)):=by
 have h1:=mL a
 have h2:=mL b
 obtain⟨z,hz⟩ : ∃ z,z=false:=⟨_,rfl⟩
 rw[← hz] at h1 h2
 refine ah.aK ae Tryz.func227 rfl (by decide) (n:=Tryz.f227.ntmps - 2) rfl rfl fun w0 av=>?_
 conv=>whnf
 repeat (refine aa.of ?_;conv=>whnf)
 refine aw.val h1 (fun w hw=>trivial) (fun v D hv=>?_)
 subst hv
 conv=>whnf
 repeat (refine aa.of ?_;conv=>whnf)
 refine aw.val h2 (fun w hw=>trivial) (fun v D hv=>?_)
 subst hv
 conv=>whnf
 repeat (refine aa.of ?_;conv=>whnf)
 refine bT.no hz ?_
 conv=>whnf
 repeat (refine aa.of ?_;conv=>whnf)
 refine bT.no hz ?_
 conv=>whnf
 repeat (refine aa.of ?_;conv=>whnf)
 refine bT.split (fun h=>?_) (fun h=>?_)
 · conv=>whnf
   repeat (refine aa.of ?_;conv=>whnf)
   refine⟨_,ao.refl _,?_⟩
   rw[au,decide_eq_true_eq] at h
   unfold iY
   rw[if_pos h]
 rw[au,decide_eq_false_iff_not] at h
 conv=>whnf
 repeat (refine aa.of ?_;conv=>whnf)
 refine bT.split (fun k=>?_) (fun k=>?_)
 · conv=>whnf
   repeat (refine aa.of ?_;conv=>whnf)
   refine⟨_,ao.refl _,?_⟩
   rw[aH,decide_eq_true_eq] at k
   unfold iY
   rw[if_neg h,if_pos k]
 · rw[aH,decide_eq_false_iff_not] at k
   conv=>whnf
   repeat (refine aa.of ?_;conv=>whnf)
   refine⟨_,ao.refl _,?_⟩
   unfold iY
   rw[if_neg h,if_neg k]
def zT (x y:Int):Int:=if x≠0 then x else y
theorem lC (x y:Int) (b c:Nat) (hc:2≤c):ah Tryz.prog 226 [.slice (some ⟨b,0,none⟩) 2 c] (fun w=>af w (some ⟨b,0,none⟩) [.int .i64 x,.int .i64 y]) (fun v F=>v = .int .i64 (zT x y)):=by
 obtain⟨o,ho⟩ : ∃ o:Nat,o=2:=⟨_,rfl⟩
 rw[← ho]
 refine ah.aK ae Tryz.func226 rfl (by decide) (n:=Tryz.f226.ntmps - 1) rfl rfl fun w0 av=>?_
 conv=>whnf
 repeat (refine aa.of ?_;conv=>whnf)
 refine az.loop ae (ι:=Nat) ([5]++List.range' 8 9) (fun j=>j≤2∧(1≤j→x=0)∧(2≤j→y=0)) (fun j=>[(8,.v (.int .i64 (j:Int)))])
  (fun _=>[]) (fun _=>⟨fun w=>af w (some ⟨b,0,none⟩) [.int .i64 x,.int .i64 y],[]⟩) (fun j=>2 - j) 0 (by omega) ?_ rfl (ao.refl _) fun i hi=>?_
 · conv=>whnf
   repeat (first | exact ax.nil | refine ax.any ?_ | refine ax.cons ?_)
 obtain⟨hi,hx,hy⟩:=hi
 conv=>whnf
 repeat (refine aa.of ?_;conv=>whnf)
 refine bT.split (fun hlt=>?_) (fun hlt=>?_)
 · have hlt':i<2:=by
    simp[au] at hlt
    omega
   have hcell:([.int .i64 x,.int .i64 y]:List Value)[i]? = some (.int .i64 (if i=0 then x else y)):=by
    rcases i with _ | _ | i
    · rfl
    · rfl
    · omega
   conv=>whnf
   repeat (refine aa.of ?_;conv=>whnf)
   refine ar.aj (ak.index ae (t:=38) rfl rfl rfl (by omega) (by omega) (fun h=>by cases h) fun ad had=>?_)
   conv=>whnf
   repeat (refine aa.of ?_;conv=>whnf)
   refine ar.aj (ak.aE ae (t:=3) rfl rfl (ad:=ad) (k:=i) (L:=[.int .i64 x,.int .i64 y]) (v:=.int .i64 (if i=0 then x else y)) (.fact fun w hw=>had ▸ hw) (fun hs=>by rw[Nat.mul_one];rfl) hcell ?_)
   conv=>whnf
   repeat (refine aa.of ?_;conv=>whnf)
   refine bT.split (fun hq=>?_) (fun hq=>?_)
   · simp only[aN,bne_iff_ne] at hq
     conv=>whnf
     repeat (refine aa.of ?_;conv=>whnf)
     refine⟨_,ao.refl _,?_⟩
     congr 1
     unfold zT
     by_cases h0:i=0
     · rw[if_pos h0] at hq ⊢
       rw[if_pos hq]
     · rw[if_neg h0] at hq ⊢
       rw[if_neg (by rw[hx (by omega)];simp)]
   · simp only[aN,bne_eq_false_iff_eq] at hq
     conv=>whnf
     repeat (refine aa.of ?_;conv=>whnf)
     refine⟨i+1,⟨⟨hlt',fun _=>?_,fun _=>?_⟩,by dsimp only;omega⟩,?_,?_,ao.refl _⟩
     · by_cases h0:i=0
       · rw[if_pos h0] at hq
         omega
       · exact hx (by omega)
     · rw[if_neg (by omega)] at hq
       omega
     · conv=>whnf
       refine⟨?_,rfl⟩
       repeat (first | exact ax.nil | refine ax.any ?_ | refine ax.cons ?_ | refine ax.eq (by rw[wrap_i64 (by omega)];rfl) ?_)
     · conv=>whnf
       exact trivial
 · have h2:2≤i:=by
    simp[au] at hlt
    omega
   conv=>whnf
   repeat (refine aa.of ?_;conv=>whnf)
   refine⟨_,ao.refl _,?_⟩
   unfold zT
   rw[hx (by omega),hy h2]
   rfl
def hU (a b c d:Int):Int:=zT (iY a b) (iY c d)
theorem m8 (a1 b1 c1 a2 b2 c2:Int):ah Tryz.prog 196 [.agg ⟨[.int .i64 a1,.int .i64 b1,.int .i64 c1]⟩,.agg ⟨[.int .i64 a2,.int .i64 b2,.int .i64 c2]⟩] (fun _=>True) (fun v F=>v = .int .i64 (hU a1 a2 b1 b2)):=by
 have h1:=eb a1 a2
 have h2:=eb b1 b2
 unfold hU
 generalize iY a1 a2=x at *
 generalize iY b1 b2=y at *
 refine ah.aK ae Tryz.func196 rfl (by decide) (n:=Tryz.f196.ntmps - 2) rfl rfl fun w0 av=>?_
 conv=>whnf
 repeat (refine aa.of ?_;conv=>whnf)
 intro b3
 conv=>whnf
 repeat (refine aa.of ?_;conv=>whnf)
 intro b4
 conv=>whnf
 repeat (refine aa.of ?_;conv=>whnf)
 refine az.draw ae mixed rfl rfl ?_
 conv=>whnf
 repeat' (first
  | (refine And.intro ?_ ?_<;>conv=>whnf)
  | (refine an.same rfl ?_;conv=>whnf)
  | (refine an.row rfl ?_;conv=>whnf)
  | (refine an.call rfl ?_;conv=>whnf)
  | (refine aS.of ?_;conv=>whnf)
  | (refine aa.of ?_;conv=>whnf)
  | (refine aw.val h1 (fun w hw=>trivial) (fun v D hv=>?_);subst hv;conv=>whnf)
  | (refine aw.val h2 (fun w hw=>trivial) (fun v D hv=>?_);subst hv;conv=>whnf)
  | (refine ar.build ae (t:=38) rfl rfl rfl [.int .i64 x,.int .i64 y] rfl rfl (by simp[Value.cells]) (by decide) fun b5=>?_;conv=>whnf)
  | (refine aw.bF (F':=⟨fun w=>af w (some ⟨b5,0,none⟩) [.int .i64 x,.int .i64 y],[]⟩) (ao.trans (G:=⟨fun w=>True,[] ++ [(b5,Row.c [.int .i64 x,.int .i64 y])]⟩) (ao.of_le ⟨by simp[Value.cells],fun w hw=>trivial⟩) (ao.trans ao.share1 (ao.imp fun w hw=>hw.2))) ?_;refine aw.val (lC x y b5 _ (Nat.le_refl _)) (fun w hw=>hw) (fun v D hv=>?_);subst hv;conv=>whnf)
  | (refine an.mk ?_ ?_;(focus (first | exact ao.refl _ | exact ao.left _ _ | exact ao.of_le ⟨List.sublist_append_left _ _,fun w h=>h⟩ | exact ao.of_le ⟨List.Sublist.refl _,fun w h=>h.1⟩));conv=>whnf))
 all_goals exact⟨_,ao.refl _,rfl⟩
theorem nh (a1 b1 c1 a2 b2 c2:Int) (d1 d2:Bool):ah Tryz.prog 175 [.agg ⟨[.int .i64 a1,.int .i64 b1,.int .i64 c1,.bool d1]⟩,.agg ⟨[.int .i64 a2,.int .i64 b2,.int .i64 c2,.bool d2]⟩] (fun _=>True) (fun v F=>v = .int .i64 (hU a1 a2 b1 b2)):=by
 have h1:=eb a1 a2
 have h2:=eb b1 b2
 unfold hU
 generalize iY a1 a2=x at *
 generalize iY b1 b2=y at *
 refine ah.aK ae Tryz.func175 rfl (by decide) (n:=Tryz.f175.ntmps - 2) rfl rfl fun w0 av=>?_
 conv=>whnf
 repeat (refine aa.of ?_;conv=>whnf)
 intro b3
 conv=>whnf
 repeat (refine aa.of ?_;conv=>whnf)
 intro b4
 conv=>whnf
 repeat (refine aa.of ?_;conv=>whnf)
 refine az.draw ae mixed rfl rfl ?_
 conv=>whnf
 repeat' (first
  | (refine And.intro ?_ ?_<;>conv=>whnf)
  | (refine an.same rfl ?_;conv=>whnf)
  | (refine an.row rfl ?_;conv=>whnf)
  | (refine an.call rfl ?_;conv=>whnf)
  | (refine aS.of ?_;conv=>whnf)
  | (refine aa.of ?_;conv=>whnf)
  | (refine aw.val h1 (fun w hw=>trivial) (fun v D hv=>?_);subst hv;conv=>whnf)
  | (refine aw.val h2 (fun w hw=>trivial) (fun v D hv=>?_);subst hv;conv=>whnf)
  | (refine ar.build ae (t:=38) rfl rfl rfl [.int .i64 x,.int .i64 y] rfl rfl (by simp[Value.cells]) (by decide) fun b5=>?_;conv=>whnf)
  | (refine aw.bF (F':=⟨fun w=>af w (some ⟨b5,0,none⟩) [.int .i64 x,.int .i64 y],[]⟩) (ao.trans (G:=⟨fun w=>True,[] ++ [(b5,Row.c [.int .i64 x,.int .i64 y])]⟩) (ao.of_le ⟨by simp[Value.cells],fun w hw=>trivial⟩) (ao.trans ao.share1 (ao.imp fun w hw=>hw.2))) ?_;refine aw.val (lC x y b5 _ (Nat.le_refl _)) (fun w hw=>hw) (fun v D hv=>?_);subst hv;conv=>whnf)
  | (refine an.mk ?_ ?_;(focus (first | exact ao.refl _ | exact ao.left _ _ | exact ao.of_le ⟨List.sublist_append_left _ _,fun w h=>h⟩ | exact ao.of_le ⟨List.Sublist.refl _,fun w h=>h.1⟩));conv=>whnf))
 all_goals exact⟨_,ao.refl _,rfl⟩
theorem m7 (a1 b1 c1 d1 a2 b2 c2 d2:Int):ah Tryz.prog 193 [.agg ⟨[.int .i64 a1,.int .i64 b1,.int .i64 c1,.int .i64 d1]⟩,.agg ⟨[.int .i64 a2,.int .i64 b2,.int .i64 c2,.int .i64 d2]⟩] (fun _=>True) (fun v F=>v = .int .i64 (hU c1 c2 b1 b2)):=by
 have h1:=eb c1 c2
 have h2:=eb b1 b2
 unfold hU
 generalize iY c1 c2=x at *
 generalize iY b1 b2=y at *
 refine ah.aK ae Tryz.func193 rfl (by decide) (n:=Tryz.f193.ntmps - 2) rfl rfl fun w0 av=>?_
 conv=>whnf
 repeat (refine aa.of ?_;conv=>whnf)
 intro b3
 conv=>whnf
 repeat (refine aa.of ?_;conv=>whnf)
 intro b4
 conv=>whnf
 repeat (refine aa.of ?_;conv=>whnf)
 refine az.draw ae mixed rfl rfl ?_
 conv=>whnf
 repeat' (first
  | (refine And.intro ?_ ?_<;>conv=>whnf)
  | (refine an.same rfl ?_;conv=>whnf)
  | (refine an.row rfl ?_;conv=>whnf)
  | (refine an.call rfl ?_;conv=>whnf)
  | (refine aS.of ?_;conv=>whnf)
  | (refine aa.of ?_;conv=>whnf)
  | (refine aw.val h1 (fun w hw=>trivial) (fun v D hv=>?_);subst hv;conv=>whnf)
  | (refine aw.val h2 (fun w hw=>trivial) (fun v D hv=>?_);subst hv;conv=>whnf)
  | (refine ar.build ae (t:=38) rfl rfl rfl [.int .i64 x,.int .i64 y] rfl rfl (by simp[Value.cells]) (by decide) fun b5=>?_;conv=>whnf)
  | (refine aw.bF (F':=⟨fun w=>af w (some ⟨b5,0,none⟩) [.int .i64 x,.int .i64 y],[]⟩) (ao.trans (G:=⟨fun w=>True,[] ++ [(b5,Row.c [.int .i64 x,.int .i64 y])]⟩) (ao.of_le ⟨by simp[Value.cells],fun w hw=>trivial⟩) (ao.trans ao.share1 (ao.imp fun w hw=>hw.2))) ?_;refine aw.val (lC x y b5 _ (Nat.le_refl _)) (fun w hw=>hw) (fun v D hv=>?_);subst hv;conv=>whnf)
  | (refine an.mk ?_ ?_;(focus (first | exact ao.refl _ | exact ao.left _ _ | exact ao.of_le ⟨List.sublist_append_left _ _,fun w h=>h⟩ | exact ao.of_le ⟨List.Sublist.refl _,fun w h=>h.1⟩));conv=>whnf))
 all_goals exact⟨_,ao.refl _,rfl⟩
theorem nf (a1 b1 c1 a2 b2 c2:Int):ah Tryz.prog 188 [.agg ⟨[.int .i64 a1,.int .i64 b1,.int .i64 c1]⟩,.agg ⟨[.int .i64 a2,.int .i64 b2,.int .i64 c2]⟩] (fun _=>True) (fun v F=>v = .int .i64 (hU a1 a2 b1 b2)):=by
 have h1:=eb a1 a2
 have h2:=eb b1 b2
 unfold hU
 generalize iY a1 a2=x at *
 generalize iY b1 b2=y at *
 refine ah.aK ae Tryz.func188 rfl (by decide) (n:=Tryz.f188.ntmps - 2) rfl rfl fun w0 av=>?_
 conv=>whnf
 repeat (refine aa.of ?_;conv=>whnf)
 intro b3
 conv=>whnf
 repeat (refine aa.of ?_;conv=>whnf)
 intro b4
 conv=>whnf
 repeat (refine aa.of ?_;conv=>whnf)
 refine az.draw ae mixed rfl rfl ?_
 conv=>whnf
 repeat' (first
  | (refine And.intro ?_ ?_<;>conv=>whnf)
  | (refine an.same rfl ?_;conv=>whnf)
  | (refine an.row rfl ?_;conv=>whnf)
  | (refine an.call rfl ?_;conv=>whnf)
  | (refine aS.of ?_;conv=>whnf)
  | (refine aa.of ?_;conv=>whnf)
  | (refine aw.val h1 (fun w hw=>trivial) (fun v D hv=>?_);subst hv;conv=>whnf)
  | (refine aw.val h2 (fun w hw=>trivial) (fun v D hv=>?_);subst hv;conv=>whnf)
  | (refine ar.build ae (t:=38) rfl rfl rfl [.int .i64 x,.int .i64 y] rfl rfl (by simp[Value.cells]) (by decide) fun b5=>?_;conv=>whnf)
  | (refine aw.bF (F':=⟨fun w=>af w (some ⟨b5,0,none⟩) [.int .i64 x,.int .i64 y],[]⟩) (ao.trans (G:=⟨fun w=>True,[] ++ [(b5,Row.c [.int .i64 x,.int .i64 y])]⟩) (ao.of_le ⟨by simp[Value.cells],fun w hw=>trivial⟩) (ao.trans ao.share1 (ao.imp fun w hw=>hw.2))) ?_;refine aw.val (lC x y b5 _ (Nat.le_refl _)) (fun w hw=>hw) (fun v D hv=>?_);subst hv;conv=>whnf)
  | (refine an.mk ?_ ?_;(focus (first | exact ao.refl _ | exact ao.left _ _ | exact ao.of_le ⟨List.sublist_append_left _ _,fun w h=>h⟩ | exact ao.of_le ⟨List.Sublist.refl _,fun w h=>h.1⟩));conv=>whnf))
 all_goals exact⟨_,ao.refl _,rfl⟩
def ef:Option Nat→Int
 | some i=>i
 | none=>-1
theorem da {α:Type} (l:List α) (p:α→Bool):decide (ef (l.findIdx? p)≥0)=l.any p:=by
 cases h:l.findIdx? p with
 | none=>
  rw[List.findIdx?_eq_none_iff] at h
  have:l.any p=false:=by
   rw[List.any_eq_false]
   intro x hx
   have:=h x hx
   simp[this]
  rw[this]
  rfl
 | some i=>
  rw[List.findIdx?_eq_some_iff_getElem] at h
  obtain⟨h1,h2,-⟩:=h
  have:l.any p=true:=List.any_eq_true.2 ⟨_,List.getElem_mem h1,h2⟩
  rw[this]
  show decide ((i:Int)≥0)=true
  simp
theorem wV {α:Type} (vf:α→Value) (hone : ∀ x,aW (vf x)=true) (f:FuncId) (Pre:World→Prop) (p:α→Bool) (l:List α) (h:Hd) (hh:h.Ok l.length) (hl:l.length≤140737488355328) (hf : ∀ e∈l,ah Tryz.prog f [(vf e)] Pre (fun v F=>v = .bool (p e))) :
 ah Tryz.prog 225 [h.v l.length,.func (.func f) #[] #[]] (fun w=>af w h.a (l.map vf)∧Pre w) (fun v F=>v = .int .i64 (ef (l.findIdx? p))):=by
 refine ah.aK ae Tryz.func225 rfl (by decide) (n:=Tryz.f225.ntmps - 2) rfl rfl fun w0 av=>?_
 conv=>whnf
 refine az.loop ae (ι:=Nat) ([5]++List.range' 8 11) (fun x=>x≤l.length∧∀ j (hj:j<l.length),j<x→p l[j]=false)
  (fun x=>[(8,.v (.int .i64 (x:Int)))]) (fun _=>[]) (fun _=>⟨fun w=>af w h.a (l.map vf)∧Pre w,[]⟩)
  (fun x=>l.length - x) 0 ⟨Nat.zero_le _,fun j hj h=>by omega⟩ ?_ rfl (ao.refl _) fun i hi=>?_
 · conv=>whnf
   repeat (first | exact ax.nil | refine ax.any ?_ | refine ax.cons ?_)
 obtain⟨hi,hall⟩:=hi
 conv=>whnf
 refine bT.split (fun hlt=>?_) (fun hlt=>?_)
 · have hlt':i<l.length:=by
    simp only[au,decide_eq_true_eq] at hlt
    omega
   conv=>whnf
   repeat (refine aa.of ?_;conv=>whnf)
   refine ar.aj (ak.index ae (t:=40) rfl rfl rfl (by omega) (by omega) hh.nil fun ad had=>?_)
   conv=>whnf
   repeat (refine aa.of ?_;conv=>whnf)
   refine ar.aj (ak.aE ae (t:=22) rfl rfl (ad:=ad) (k:=i) (L:=l.map vf) (v:=vf l[i]) (.fact fun w hw=>had ▸ hw.1) (fun hs=>by rw[Nat.mul_one];rfl) (by rw[List.getElem?_map,List.getElem?_eq_getElem hlt'];rfl) ?_)
   conv=>whnf
   repeat (refine aa.of ?_;conv=>whnf)
   refine aw.val (hf _ (List.getElem_mem hlt')) (fun w hw=>hw.2) (fun v D hv=>?_)
   generalize hq:p l[i]=q at hv
   subst hv
   cases q
   · conv=>whnf
     repeat (refine aa.of ?_;conv=>whnf)
     refine⟨i+1,⟨⟨hlt',fun j hj h=>?_⟩,by dsimp only;omega⟩,?_,?_,ao.refl _⟩
     · rcases Nat.lt_or_eq_of_le (Nat.lt_succ_iff.1 h) with h5 | h5
       · exact hall j hj h5
       · subst h5
         exact hq
     · conv=>whnf
       refine⟨?_,rfl⟩
       repeat (first | exact ax.nil | refine ax.any ?_ | refine ax.cons ?_ | refine ax.eq (by rw[wrap_i64 (by omega)];rfl) ?_)
     · conv=>whnf
       exact trivial
   · conv=>whnf
     repeat (refine aa.of ?_;conv=>whnf)
     refine⟨_,ao.refl _,?_⟩
     have:l.findIdx? p=some i:=by
      rw[List.findIdx?_eq_some_iff_getElem]
      exact⟨hlt',hq,fun j hj=>by simpa using hall j (by omega) hj⟩
     rw[this]
     rfl
 · have hie:i=l.length:=by
    simp only[au,decide_eq_false_iff_not] at hlt
    omega
   subst hie
   conv=>whnf
   repeat (refine aa.of ?_;conv=>whnf)
   refine⟨_,ao.refl _,?_⟩
   have:l.findIdx? p=none:=by
    rw[List.findIdx?_eq_none_iff]
    intro x hx
    obtain⟨j,hj,rfl⟩:=List.getElem_of_mem hx
    simpa using hall j hj hj
   rw[this]
   rfl
theorem o9 {α:Type} (vf:α→Value) (hone : ∀ x,aW (vf x)=true) (f:FuncId) (Pre:World→Prop) (p:α→Bool) (l:List α) (h:Hd) (hh:h.Ok l.length) (hl:l.length≤140737488355328) (hf : ∀ e∈l,ah Tryz.prog f [(vf e)] Pre (fun v F=>v = .bool (p e))) :
 ah Tryz.prog 172 [h.v l.length,.func (.func f) #[] #[]] (fun w=>af w h.a (l.map vf)∧Pre w) (fun v F=>v = .bool (l.any p)):=by
 have hi:=wV vf hone f Pre p l h hh hl hf
 have hv:=da l p
 generalize ef (l.findIdx? p)=j at *
 refine ah.aK ae Tryz.func172 rfl (by decide) (n:=Tryz.f172.ntmps - 2) rfl rfl fun w0 av=>?_
 conv=>whnf
 repeat (refine aa.of ?_;conv=>whnf)
 refine aw.val hi (fun w hw=>hw) (fun v D hv=>?_)
 subst hv
 conv=>whnf
 repeat (refine aa.of ?_;conv=>whnf)
 exact⟨_,ao.refl _,by rw[← hv,aI]⟩
theorem xH {α:Type} (cf:α→List Value) (hz : ∀ x,(cf x).length=6) (f:FuncId) (Pre:World→Prop) (p:α→Bool) (u0 u1:Value) (l:List α) (h:Hd) (hh:h.Ok l.length) (hl:l.length≤140737488355328) (hf : ∀ e∈l,ah Tryz.prog f [.agg ⟨cf e⟩,u0,u1] Pre (fun v F=>v = .bool (p e))) :
 ah Tryz.prog 198 [h.v l.length,.func (.func f) #[] #[u0,u1]] (fun w=>af w h.a (l.flatMap cf)∧Pre w) (fun v F=>v = .int .i64 (ef (l.findIdx? p))):=by
 refine ah.aK ae Tryz.func198 rfl (by decide) (n:=Tryz.f198.ntmps - 2) rfl rfl fun w0 av=>?_
 conv=>whnf
 refine az.loop ae (ι:=Nat) ([5]++List.range' 8 11) (fun x=>x≤l.length∧∀ j (hj:j<l.length),j<x→p l[j]=false)
  (fun x=>[(8,.v (.int .i64 (x:Int)))]) (fun _=>[]) (fun _=>⟨fun w=>af w h.a (l.flatMap cf)∧Pre w,[]⟩)
  (fun x=>l.length - x) 0 ⟨Nat.zero_le _,fun j hj h=>by omega⟩ ?_ rfl (ao.refl _) fun i hi=>?_
 · conv=>whnf
   repeat (first | exact ax.nil | refine ax.any ?_ | refine ax.cons ?_)
 obtain⟨hi,hall⟩:=hi
 conv=>whnf
 refine bT.split (fun hlt=>?_) (fun hlt=>?_)
 · have hlt':i<l.length:=by
    simp only[au,decide_eq_true_eq] at hlt
    omega
   conv=>whnf
   repeat (refine aa.of ?_;conv=>whnf)
   refine ar.aj (ak.index ae (t:=82) rfl rfl rfl (by omega) (by omega) hh.nil fun ad had=>?_)
   conv=>whnf
   repeat (refine aa.of ?_;conv=>whnf)
   refine ar.aj (ak.aU ae (t:=161) rfl rfl (ad:=ad) (k:=i*6) (L:=l.flatMap cf) (m:=cf l[i]) (.fact fun w hw=>had ▸ hw.1) (by simp) (bj hz hlt') (hz _) ?_)
   conv=>whnf
   repeat (refine aa.of ?_;conv=>whnf)
   refine aw.val (hf _ (List.getElem_mem hlt')) (fun w hw=>hw.2) (fun v D hv=>?_)
   generalize hq:p l[i]=q at hv
   subst hv
   cases q
   · conv=>whnf
     repeat (refine aa.of ?_;conv=>whnf)
     refine⟨i+1,⟨⟨hlt',fun j hj h=>?_⟩,by dsimp only;omega⟩,?_,?_,ao.refl _⟩
     · rcases Nat.lt_or_eq_of_le (Nat.lt_succ_iff.1 h) with h5 | h5
       · exact hall j hj h5
       · subst h5
         exact hq
     · conv=>whnf
       refine⟨?_,rfl⟩
       repeat (first | exact ax.nil | refine ax.any ?_ | refine ax.cons ?_ | refine ax.eq (by rw[wrap_i64 (by omega)];rfl) ?_)
     · conv=>whnf
       exact trivial
   · conv=>whnf
     repeat (refine aa.of ?_;conv=>whnf)
     refine⟨_,ao.refl _,?_⟩
     have:l.findIdx? p=some i:=by
      rw[List.findIdx?_eq_some_iff_getElem]
      exact⟨hlt',hq,fun j hj=>by simpa using hall j (by omega) hj⟩
     rw[this]
     rfl
 · have hie:i=l.length:=by
    simp only[au,decide_eq_false_iff_not] at hlt
    omega
   subst hie
   conv=>whnf
   repeat (refine aa.of ?_;conv=>whnf)
   refine⟨_,ao.refl _,?_⟩
   have:l.findIdx? p=none:=by
    rw[List.findIdx?_eq_none_iff]
    intro x hx
    obtain⟨j,hj,rfl⟩:=List.getElem_of_mem hx
    simpa using hall j hj hj
   rw[this]
   rfl
theorem sX {α:Type} (cf:α→List Value) (hz : ∀ x,(cf x).length=6) (f:FuncId) (Pre:World→Prop) (p:α→Bool) (u0 u1:Value) (l:List α) (h:Hd) (hh:h.Ok l.length) (hl:l.length≤140737488355328) (hf : ∀ e∈l,ah Tryz.prog f [.agg ⟨cf e⟩,u0,u1] Pre (fun v F=>v = .bool (p e))) :
 ah Tryz.prog 121 [h.v l.length,.func (.func f) #[] #[u0,u1]] (fun w=>af w h.a (l.flatMap cf)∧Pre w) (fun v F=>v = .bool (l.any p)):=by
 have hi:=xH cf hz f Pre p u0 u1 l h hh hl hf
 have hv:=da l p
 generalize ef (l.findIdx? p)=j at *
 refine ah.aK ae Tryz.func121 rfl (by decide) (n:=Tryz.f121.ntmps - 2) rfl rfl fun w0 av=>?_
 conv=>whnf
 repeat (refine aa.of ?_;conv=>whnf)
 refine aw.val hi (fun w hw=>hw) (fun v D hv=>?_)
 subst hv
 conv=>whnf
 repeat (refine aa.of ?_;conv=>whnf)
 exact⟨_,ao.refl _,by rw[← hv,aI]⟩
theorem vU {α:Type} (cf:α→List Value) (hz : ∀ x,(cf x).length=6) (f:FuncId) (Pre:World→Prop) (p:α→Bool) (u0:Value) (l:List α) (h:Hd) (hh:h.Ok l.length) (hl:l.length≤140737488355328) (hf : ∀ e∈l,ah Tryz.prog f [.agg ⟨cf e⟩,u0] Pre (fun v F=>v = .bool (p e))) :
 ah Tryz.prog 198 [h.v l.length,.func (.func f) #[] #[u0]] (fun w=>af w h.a (l.flatMap cf)∧Pre w) (fun v F=>v = .int .i64 (ef (l.findIdx? p))):=by
 refine ah.aK ae Tryz.func198 rfl (by decide) (n:=Tryz.f198.ntmps - 2) rfl rfl fun w0 av=>?_
 conv=>whnf
 refine az.loop ae (ι:=Nat) ([5]++List.range' 8 11) (fun x=>x≤l.length∧∀ j (hj:j<l.length),j<x→p l[j]=false)
  (fun x=>[(8,.v (.int .i64 (x:Int)))]) (fun _=>[]) (fun _=>⟨fun w=>af w h.a (l.flatMap cf)∧Pre w,[]⟩)
  (fun x=>l.length - x) 0 ⟨Nat.zero_le _,fun j hj h=>by omega⟩ ?_ rfl (ao.refl _) fun i hi=>?_
 · conv=>whnf
   repeat (first | exact ax.nil | refine ax.any ?_ | refine ax.cons ?_)
 obtain⟨hi,hall⟩:=hi
 conv=>whnf
 refine bT.split (fun hlt=>?_) (fun hlt=>?_)
 · have hlt':i<l.length:=by
    simp only[au,decide_eq_true_eq] at hlt
    omega
   conv=>whnf
   repeat (refine aa.of ?_;conv=>whnf)
   refine ar.aj (ak.index ae (t:=82) rfl rfl rfl (by omega) (by omega) hh.nil fun ad had=>?_)
   conv=>whnf
   repeat (refine aa.of ?_;conv=>whnf)
   refine ar.aj (ak.aU ae (t:=161) rfl rfl (ad:=ad) (k:=i*6) (L:=l.flatMap cf) (m:=cf l[i]) (.fact fun w hw=>had ▸ hw.1) (by simp) (bj hz hlt') (hz _) ?_)
   conv=>whnf
   repeat (refine aa.of ?_;conv=>whnf)
   refine aw.val (hf _ (List.getElem_mem hlt')) (fun w hw=>hw.2) (fun v D hv=>?_)
   generalize hq:p l[i]=q at hv
   subst hv
   cases q
   · conv=>whnf
     repeat (refine aa.of ?_;conv=>whnf)
     refine⟨i+1,⟨⟨hlt',fun j hj h=>?_⟩,by dsimp only;omega⟩,?_,?_,ao.refl _⟩
     · rcases Nat.lt_or_eq_of_le (Nat.lt_succ_iff.1 h) with h5 | h5
       · exact hall j hj h5
       · subst h5
         exact hq
     · conv=>whnf
       refine⟨?_,rfl⟩
       repeat (first | exact ax.nil | refine ax.any ?_ | refine ax.cons ?_ | refine ax.eq (by rw[wrap_i64 (by omega)];rfl) ?_)
     · conv=>whnf
       exact trivial
   · conv=>whnf
     repeat (refine aa.of ?_;conv=>whnf)
     refine⟨_,ao.refl _,?_⟩
     have:l.findIdx? p=some i:=by
      rw[List.findIdx?_eq_some_iff_getElem]
      exact⟨hlt',hq,fun j hj=>by simpa using hall j (by omega) hj⟩
     rw[this]
     rfl
 · have hie:i=l.length:=by
    simp only[au,decide_eq_false_iff_not] at hlt
    omega
   subst hie
   conv=>whnf
   repeat (refine aa.of ?_;conv=>whnf)
   refine⟨_,ao.refl _,?_⟩
   have:l.findIdx? p=none:=by
    rw[List.findIdx?_eq_none_iff]
    intro x hx
    obtain⟨j,hj,rfl⟩:=List.getElem_of_mem hx
    simpa using hall j hj hj
   rw[this]
   rfl
theorem vw {α:Type} (cf:α→List Value) (hz : ∀ x,(cf x).length=6) (f:FuncId) (Pre:World→Prop) (p:α→Bool) (u0:Value) (l:List α) (h:Hd) (hh:h.Ok l.length) (hl:l.length≤140737488355328) (hf : ∀ e∈l,ah Tryz.prog f [.agg ⟨cf e⟩,u0] Pre (fun v F=>v = .bool (p e))) :
 ah Tryz.prog 121 [h.v l.length,.func (.func f) #[] #[u0]] (fun w=>af w h.a (l.flatMap cf)∧Pre w) (fun v F=>v = .bool (l.any p)):=by
 have hi:=vU cf hz f Pre p u0 l h hh hl hf
 have hv:=da l p
 generalize ef (l.findIdx? p)=j at *
 refine ah.aK ae Tryz.func121 rfl (by decide) (n:=Tryz.f121.ntmps - 2) rfl rfl fun w0 av=>?_
 conv=>whnf
 repeat (refine aa.of ?_;conv=>whnf)
 refine aw.val hi (fun w hw=>hw) (fun v D hv=>?_)
 subst hv
 conv=>whnf
 repeat (refine aa.of ?_;conv=>whnf)
 exact⟨_,ao.refl _,by rw[← hv,aI]⟩
def allI (n:Nat) (q:Nat→Bool):Bool:=(List.range n).all q
theorem bH {n:Nat} {q:Nat→Bool} (h : ∀ j,j<n→q j=true):allI n q=true:=by
 unfold allI
 rw[List.all_eq_true]
 intro j hj
 exact h j (List.mem_range.1 hj)
theorem aZ {n j:Nat} {q:Nat→Bool} (hj:j<n) (h:q j=false):allI n q=false:=by
 unfold allI
 rw[List.all_eq_false]
 exact⟨j,List.mem_range.2 hj,by rw[h];decide⟩
theorem jh {n:Nat} {q:Nat→Bool}:allI n q=true↔∀ j,j<n→q j=true:=by
 unfold allI
 rw[List.all_eq_true]
 exact⟨fun h j hj=>h j (List.mem_range.2 hj),fun h j hj=>h j (List.mem_range.1 hj)⟩
structure Se where
 page:Int
 frame:Int
 w:Bool
 deriving Inhabited
def bx (x:Se):List Value:=[.int .i64 x.page,.int .i64 x.frame,.bool x.w]
def vF (x:Se):Bool:=decide (0≤x.page∧x.page<32∧0≤x.frame∧x.frame<96)
def jg (l:List Se) (j:Nat):Bool:=vF l[j]! && (decide (j=0)||decide (l[j - 1]!.page<l[j]!.page))
theorem cm {α:Type} [Inhabited α] {l:List α} {i:Nat} (h:i<l.length):l[i]! = l[i]:=by
 rw[getElem!_pos]
theorem ld (l:List Se) (h:Hd) (hh:h.Ok l.length) (hl:l.length≤140737488355328) :
 ah Tryz.prog 102 [h.v l.length] (fun w=>af w h.a (l.flatMap bx)) (fun v F=>v = .bool (allI l.length (jg l))):=by
 refine ah.aK ae Tryz.func102 rfl (by decide) (n:=Tryz.f102.ntmps - 1) rfl rfl fun w0 av=>?_
 conv=>whnf
 repeat (refine aa.of ?_;conv=>whnf)
 refine az.loop ae (ι:=Nat) ([3,4]++List.range' 7 24) (fun x=>x≤l.length∧∀ j,j<x→jg l j=true)
  (fun x=>[(7,.v (.int .i64 (x:Int)))]) (fun _=>[]) (fun _=>⟨fun w=>af w h.a (l.flatMap bx),[]⟩)
  (fun x=>l.length - x) 0 ⟨Nat.zero_le _,fun j h=>by omega⟩ ?_ rfl (ao.refl _) fun i hi=>?_
 · conv=>whnf
   repeat (first | exact ax.nil | refine ax.any ?_ | refine ax.cons ?_)
 obtain⟨hi,hall⟩:=hi
 conv=>whnf
 repeat (refine aa.of ?_;conv=>whnf)
 refine bT.split (fun hlt=>?_) (fun hlt=>?_)
 · have hlt':i<l.length:=by
    simp only[au,decide_eq_true_eq] at hlt
    omega
   have hsp:=m5 l[i].page l[i].frame l[i].w
   have hok:jg l i=(vF l[i]&&(decide (i=0)||decide (l[i - 1]!.page<l[i].page))):=by
    unfold jg
    rw[cm hlt']
   have hpe:decide (0≤l[i].page∧l[i].page<32∧0≤l[i].frame∧l[i].frame<96)=vF l[i]:=rfl
   rw[hpe] at hsp
   generalize vF l[i]=q1 at *
   have hnext:jg l i=true→∀ j,j<i+1→jg l j=true:=fun hs j hj=>by
    rcases Nat.lt_or_eq_of_le (Nat.lt_succ_iff.1 hj) with h5 | h5
    · exact hall j h5
    · exact h5 ▸ hs
   conv=>whnf
   repeat (refine aa.of ?_;conv=>whnf)
   refine ar.aj (ak.index ae (t:=92) rfl rfl rfl (by omega) (by omega) hh.nil fun ad had=>?_)
   conv=>whnf
   repeat (refine aa.of ?_;conv=>whnf)
   refine ar.aj (ak.aU ae (t:=136) rfl rfl (ad:=ad) (k:=i*3) (L:=l.flatMap bx) (m:=bx l[i]) (.fact fun w hw=>had ▸ hw) (by simp) (bj (cf:=bx) (z:=3) (fun _=>rfl) hlt') rfl ?_)
   conv=>whnf
   repeat (refine aa.of ?_;conv=>whnf)
   intro b1
   conv=>whnf
   repeat (refine aa.of ?_;conv=>whnf)
   refine az.draw ae mixed rfl rfl ?_
   conv=>whnf
   repeat' (first
    | (refine And.intro ?_ ?_<;>conv=>whnf)
    | (refine an.same rfl ?_;conv=>whnf)
    | (refine an.row rfl ?_;conv=>whnf)
    | (refine an.call rfl ?_;conv=>whnf)
    | (refine aS.of ?_;conv=>whnf)
    | (refine aa.of ?_;conv=>whnf)
    | (refine aw.val hsp (fun w hw=>trivial) (fun v D hv=>?_);subst hv;conv=>whnf)
    | (refine an.mk ?_ ?_;(focus (first | exact ao.refl _ | exact ao.left _ _ | exact ao.of_le ⟨List.sublist_append_left _ _,fun w h=>h⟩ | exact ao.of_le ⟨List.Sublist.refl _,fun w h=>h.1⟩));conv=>whnf))
   cases q1
   · conv=>whnf
     repeat (refine aa.of ?_;conv=>whnf)
     repeat' (first
      | (refine And.intro ?_ ?_<;>conv=>whnf)
      | (refine an.same rfl ?_;conv=>whnf)
      | (refine an.row rfl ?_;conv=>whnf)
      | (refine an.call rfl ?_;conv=>whnf)
      | (refine aS.of ?_;conv=>whnf)
      | (refine aa.of ?_;conv=>whnf)
      | (refine an.mk ?_ ?_;(focus (first | exact ao.refl _ | exact ao.left _ _ | exact ao.of_le ⟨List.sublist_append_left _ _,fun w h=>h⟩ | exact ao.of_le ⟨List.Sublist.refl _,fun w h=>h.1⟩));conv=>whnf))
     exact⟨_,ao.refl _,by rw[aZ hlt' (by rw[hok];rfl)]⟩
   conv=>whnf
   repeat (refine aa.of ?_;conv=>whnf)
   rcases Nat.eq_zero_or_pos i with h0 | h0
   · have hg:mr (i:Int) 0=false:=by simp[aH];omega
     repeat' (first
      | (refine And.intro ?_ ?_<;>conv=>whnf)
      | (refine an.same rfl ?_;conv=>whnf)
      | (refine an.row rfl ?_;conv=>whnf)
      | (refine an.call rfl ?_;conv=>whnf)
      | (refine aS.of ?_;conv=>whnf)
      | (refine aa.of ?_;conv=>whnf)
      | (rw[hg];conv=>whnf)
      | (refine an.mk ?_ ?_;(focus (first | exact ao.refl _ | exact ao.left _ _ | exact ao.of_le ⟨List.sublist_append_left _ _,fun w h=>h⟩ | exact ao.of_le ⟨List.Sublist.refl _,fun w h=>h.1⟩));conv=>whnf))
     refine⟨i+1,⟨⟨hlt',hnext (by rw[hok,decide_eq_true h0];rfl)⟩,by dsimp only;omega⟩,?_,?_,ao.refl _⟩
     · conv=>whnf
       refine⟨?_,rfl⟩
       repeat (first | exact ax.nil | refine ax.any ?_ | refine ax.cons ?_ | refine ax.eq (by rw[wrap_i64 (by omega)];rfl) ?_)
     · conv=>whnf
       exact trivial
   · have hg:mr (i:Int) 0=true:=by simp[aH];omega
     have hj:i - 1<l.length:=by omega
     have hw1:IntKind.i64.wrap ((i:Int) - 1)=((i - 1:Nat):Int):=by
      rw[wrap_i64 (by omega)]
      omega
     have hb:l[i - 1]!.page=l[i - 1].page:=by rw[cm hj]
     repeat' (first
      | (refine And.intro ?_ ?_<;>conv=>whnf)
      | (refine an.same rfl ?_;conv=>whnf)
      | (refine an.row rfl ?_;conv=>whnf)
      | (refine an.call rfl ?_;conv=>whnf)
      | (refine aS.of ?_;conv=>whnf)
      | (refine aa.of ?_;conv=>whnf)
      | (rw[hg];conv=>whnf)
      | (refine ak.index ae (t:=92) rfl rfl rfl (by omega) (by omega) hh.nil fun ad2 had2=>?_;conv=>whnf)
      | (refine ak.aE ae (t:=3) rfl rfl (ad:=ad2) (k:=(i - 1)*3) (L:=l.flatMap bx) (v:=.int .i64 l[i - 1].page) (.fact fun w hw=>had2 ▸ hw) (fun hs=>by rw[hw1];rfl) (eY (cf:=bx) (z:=3) (fun _=>rfl) hj (k:=0) (by decide)) ?_;conv=>whnf)
      | (refine an.mk ?_ ?_;(focus (first | exact ao.refl _ | exact ao.left _ _ | exact ao.of_le ⟨List.sublist_append_left _ _,fun w h=>h⟩ | exact ao.of_le ⟨List.Sublist.refl _,fun w h=>h.1⟩));conv=>whnf))
     by_cases hlt2:l[i - 1].page<l[i].page
     · rw[show gQ l[i - 1].page l[i].page=false by simp[aI];omega]
       conv=>whnf
       repeat (refine aa.of ?_;conv=>whnf)
       refine⟨i+1,⟨⟨hlt',hnext (by rw[hok,hb,decide_eq_true hlt2,Bool.or_true];rfl)⟩,by dsimp only;omega⟩,?_,?_,ao.refl _⟩
       · conv=>whnf
         refine⟨?_,rfl⟩
         repeat (first | exact ax.nil | refine ax.any ?_ | refine ax.cons ?_ | refine ax.eq (by rw[wrap_i64 (by omega)];rfl) ?_)
       · conv=>whnf
         exact trivial
     · rw[show gQ l[i - 1].page l[i].page=true by simp[aI];omega]
       conv=>whnf
       repeat (refine aa.of ?_;conv=>whnf)
       exact⟨_,ao.refl _,by rw[aZ hlt' (by rw[hok,hb,decide_eq_false hlt2,decide_eq_false (by omega)];rfl)]⟩
 · have hie:i=l.length:=by
    simp only[au,decide_eq_false_iff_not] at hlt
    omega
   subst hie
   conv=>whnf
   repeat (refine aa.of ?_;conv=>whnf)
   exact⟨_,ao.refl _,by rw[bH hall]⟩
structure Al where
 id:Int
 at':Int
 deriving Inhabited
def fu (x:Al):List Value:=[.int .i64 x.id,.int .i64 x.at']
def qU (now:Int) (l:List Al) (j:Nat):Bool:=decide (0≤l[j]!.id∧(0<j→l[j - 1]!.id<l[j]!.id)∧now<l[j]!.at'∧l[j]!.at'≤1099511627776)
theorem k_ (now:Int) (l:List Al) (h:Hd) (hh:h.Ok l.length) (hl:l.length≤140737488355328) :
 ah Tryz.prog 108 [.agg ⟨[.int .i64 now,h.v l.length]⟩] (fun w=>af w h.a (l.flatMap fu)) (fun v F=>v = .bool (allI l.length (qU now l)&&decide (0≤now∧now≤1099511627776∧l.length≤32))):=by
 refine ah.aK ae Tryz.func108 rfl (by decide) (n:=Tryz.f108.ntmps - 1) rfl rfl fun w0 av=>?_
 conv=>whnf
 repeat (refine aa.of ?_;conv=>whnf)
 intro b0
 conv=>whnf
 repeat (refine aa.of ?_;conv=>whnf)
 refine az.loop ae (ι:=Nat) ([3,4]++List.range' 8 37) (fun x=>x≤l.length∧∀ j,j<x→qU now l j=true)
  (fun x=>[(8,.v (.int .i64 (x:Int)))]) (fun _=>[[.int .i64 now,h.v l.length]]) (fun _=>⟨fun w=>af w h.a (l.flatMap fu),[]⟩)
  (fun x=>l.length - x) 0 ⟨Nat.zero_le _,fun j h=>by omega⟩ ?_ rfl (ao.refl _) fun i hi=>?_
 · conv=>whnf
   repeat (first | exact ax.nil | refine ax.any ?_ | refine ax.cons ?_)
 obtain⟨hi,hall⟩:=hi
 conv=>whnf
 repeat (refine aa.of ?_;conv=>whnf)
 refine bT.split (fun hlt=>?_) (fun hlt=>?_)
 · have hlt':i<l.length:=by
    simp only[au,decide_eq_true_eq] at hlt
    omega
   have hok:qU now l i=decide (0≤l[i].id∧(0<i→l[i - 1]!.id<l[i].id)∧now<l[i].at'∧l[i].at'≤1099511627776):=by
    unfold qU
    rw[cm hlt']
   have hnext:qU now l i=true→∀ j,j<i+1→qU now l j=true:=fun hs j hj=>by
    rcases Nat.lt_or_eq_of_le (Nat.lt_succ_iff.1 hj) with h5 | h5
    · exact hall j h5
    · exact h5 ▸ hs
   conv=>whnf
   repeat (refine aa.of ?_;conv=>whnf)
   refine ar.aj (ak.index ae (t:=116) rfl rfl rfl (by omega) (by omega) hh.nil fun ad had=>?_)
   conv=>whnf
   repeat (refine aa.of ?_;conv=>whnf)
   refine ar.aj (ak.aU ae (t:=176) rfl rfl (ad:=ad) (k:=i*2) (L:=l.flatMap fu) (m:=fu l[i]) (.fact fun w hw=>had ▸ hw) (by simp) (bj (cf:=fu) (z:=2) (fun _=>rfl) hlt') rfl ?_)
   conv=>whnf
   repeat (refine aa.of ?_;conv=>whnf)
   intro b1
   conv=>whnf
   repeat (refine aa.of ?_;conv=>whnf)
   refine az.draw ae mixed rfl rfl ?_
   conv=>whnf
   rcases Nat.eq_zero_or_pos i with h0 | h0
   · have hg:mr (i:Int) 0=false:=by simp[aH];omega
     repeat' (first
      | (refine And.intro ?_ ?_<;>conv=>whnf)
      | (refine an.same rfl ?_;conv=>whnf)
      | (refine an.row rfl ?_;conv=>whnf)
      | (refine an.call rfl ?_;conv=>whnf)
      | (refine aS.of ?_;conv=>whnf)
      | (refine aa.of ?_;conv=>whnf)
      | (rw[hg];conv=>whnf)
      | (split<;>conv=>whnf)
      | (refine an.mk ?_ ?_;(focus (first | exact ao.refl _ | exact ao.left _ _ | exact ao.of_le ⟨List.sublist_append_left _ _,fun w h=>h⟩ | exact ao.of_le ⟨List.Sublist.refl _,fun w h=>h.1⟩));conv=>whnf))
     all_goals first
      | (refine⟨_,ao.refl _,?_⟩;rw[aZ hlt' (by rw[hok];((try subst heq1);(try subst heq2);(try subst heq3);simp only[cond_true,cond_false,au,aJ,aH,aI,aO,aN,decide_eq_true_eq,decide_eq_false_iff_not,beq_iff_eq,bne_iff_ne,ne_eq,beq_eq_false_iff_ne,bne_eq_false_iff_eq,Bool.not_eq_true,Bool.not_eq_false,Bool.and_true,Bool.true_and,Bool.and_false,Bool.false_and,Bool.or_true,Bool.or_false,Bool.true_or,Bool.false_or,Bool.not_eq_true',Bool.not_eq_false',Bool.not_true,Bool.not_false] at *;first | omega | (simp_all;done) | (simp_all;omega)))];first | done | rfl)
      | (
       refine⟨i+1,⟨⟨hlt',hnext (by rw[hok];((try subst heq1);(try subst heq2);(try subst heq3);simp only[cond_true,cond_false,au,aJ,aH,aI,aO,aN,decide_eq_true_eq,decide_eq_false_iff_not,beq_iff_eq,bne_iff_ne,ne_eq,beq_eq_false_iff_ne,bne_eq_false_iff_eq,Bool.not_eq_true,Bool.not_eq_false,Bool.and_true,Bool.true_and,Bool.and_false,Bool.false_and,Bool.or_true,Bool.or_false,Bool.true_or,Bool.false_or,Bool.not_eq_true',Bool.not_eq_false',Bool.not_true,Bool.not_false] at *;first | omega | (simp_all;done) | (simp_all;omega)))⟩,by dsimp only;omega⟩,?_,?_,ao.refl _⟩;(conv=>whnf);refine⟨?_,rfl⟩;repeat (first | exact ax.nil | refine ax.any ?_ | refine ax.cons ?_ | refine ax.eq (by rw[wrap_i64 (by omega)];rfl) ?_)
       (conv=>whnf);exact⟨⟨rfl,rfl⟩,trivial⟩)
   · have hg:mr (i:Int) 0=true:=by simp[aH];omega
     have hj:i - 1<l.length:=by omega
     have hw1:IntKind.i64.wrap ((i:Int) - 1)=((i - 1:Nat):Int):=by
      rw[wrap_i64 (by omega)]
      omega
     rw[cm hj] at hok
     repeat' (first
      | (refine And.intro ?_ ?_<;>conv=>whnf)
      | (refine an.same rfl ?_;conv=>whnf)
      | (refine an.row rfl ?_;conv=>whnf)
      | (refine an.call rfl ?_;conv=>whnf)
      | (refine aS.of ?_;conv=>whnf)
      | (refine aa.of ?_;conv=>whnf)
      | (rw[hg];conv=>whnf)
      | (refine ak.index ae (t:=116) rfl rfl rfl (by omega) (by omega) hh.nil fun ad2 had2=>?_;conv=>whnf)
      | (refine ak.aE ae (t:=3) rfl rfl (ad:=ad2) (k:=(i - 1)*2) (L:=l.flatMap fu) (v:=.int .i64 l[i - 1].id) (.fact fun w hw=>had2 ▸ hw) (fun hs=>by rw[hw1];rfl) (eY (cf:=fu) (z:=2) (fun _=>rfl) hj (k:=0) (by decide)) ?_;conv=>whnf)
      | (split<;>conv=>whnf)
      | (refine an.mk ?_ ?_;(focus (first | exact ao.refl _ | exact ao.left _ _ | exact ao.of_le ⟨List.sublist_append_left _ _,fun w h=>h⟩ | exact ao.of_le ⟨List.Sublist.refl _,fun w h=>h.1⟩));conv=>whnf))
     all_goals first
      | (refine⟨_,ao.refl _,?_⟩;rw[aZ hlt' (by rw[hok];((try subst heq1);(try subst heq2);(try subst heq3);simp only[cond_true,cond_false,au,aJ,aH,aI,aO,aN,decide_eq_true_eq,decide_eq_false_iff_not,beq_iff_eq,bne_iff_ne,ne_eq,beq_eq_false_iff_ne,bne_eq_false_iff_eq,Bool.not_eq_true,Bool.not_eq_false,Bool.and_true,Bool.true_and,Bool.and_false,Bool.false_and,Bool.or_true,Bool.or_false,Bool.true_or,Bool.false_or,Bool.not_eq_true',Bool.not_eq_false',Bool.not_true,Bool.not_false] at *;first | omega | (simp_all;done) | (simp_all;omega)))];first | done | rfl)
      | (
       refine⟨i+1,⟨⟨hlt',hnext (by rw[hok];((try subst heq1);(try subst heq2);(try subst heq3);simp only[cond_true,cond_false,au,aJ,aH,aI,aO,aN,decide_eq_true_eq,decide_eq_false_iff_not,beq_iff_eq,bne_iff_ne,ne_eq,beq_eq_false_iff_ne,bne_eq_false_iff_eq,Bool.not_eq_true,Bool.not_eq_false,Bool.and_true,Bool.true_and,Bool.and_false,Bool.false_and,Bool.or_true,Bool.or_false,Bool.true_or,Bool.false_or,Bool.not_eq_true',Bool.not_eq_false',Bool.not_true,Bool.not_false] at *;first | omega | (simp_all;done) | (simp_all;omega)))⟩,by dsimp only;omega⟩,?_,?_,ao.refl _⟩;(conv=>whnf);refine⟨?_,rfl⟩;repeat (first | exact ax.nil | refine ax.any ?_ | refine ax.cons ?_ | refine ax.eq (by rw[wrap_i64 (by omega)];rfl) ?_)
       (conv=>whnf);exact⟨⟨rfl,rfl⟩,trivial⟩)
 · have hie:i=l.length:=by
    simp only[au,decide_eq_false_iff_not] at hlt
    omega
   subst hie
   conv=>whnf
   repeat (refine aa.of ?_;conv=>whnf)
   refine⟨_,ao.refl _,?_⟩
   rw[bH hall,Bool.true_and]
   congr 1
   rw[Bool.eq_iff_iff]
   simp[aI,aJ]
   omega
structure Ti where
 owner:Int
 tag:Int
 due:Int
 deriving Inhabited
def cj (x:Ti):List Value:=[.int .i64 x.owner,.int .i64 x.tag,.int .i64 x.due]
def pd (l:List Ti) (j:Nat):Bool:=decide ((1≤l[j]!.owner∧l[j]!.owner≤10)∧0≤l[j]!.due∧l[j]!.due≤2199023255552∧(0<j→hU l[j - 1]!.owner l[j]!.owner l[j - 1]!.tag l[j]!.tag<0))
theorem oC (a:Int):ah Tryz.prog 195 [.int .i64 a] (fun _=>True) (fun v F=>v = .bool (decide (1≤a∧a≤10))):=by
 refine ah.aK ae Tryz.func195 rfl (by decide) (n:=Tryz.f195.ntmps - 1) rfl rfl fun w0 av=>?_
 conv=>whnf
 repeat (refine aa.of ?_;conv=>whnf)
 exact⟨_,ao.refl _,by congr 1;rw[Bool.eq_iff_iff];simp[aI,au,aJ,aH,aO,aN,and_assoc];try omega⟩
theorem nr (l:List Ti) (h:Hd) (hh:h.Ok l.length) (hl:l.length≤140737488355328) :
 ah Tryz.prog 113 [h.v l.length] (fun w=>af w h.a (l.flatMap cj)) (fun v F=>v = .bool (allI l.length (pd l)&&decide (l.length≤100))):=by
 refine ah.aK ae Tryz.func113 rfl (by decide) (n:=Tryz.f113.ntmps - 1) rfl rfl fun w0 av=>?_
 conv=>whnf
 repeat (refine aa.of ?_;conv=>whnf)
 refine az.loop ae (ι:=Nat) ([3,4]++List.range' 7 37) (fun x=>x≤l.length∧∀ j,j<x→pd l j=true)
  (fun x=>[(7,.v (.int .i64 (x:Int)))]) (fun _=>[]) (fun _=>⟨fun w=>af w h.a (l.flatMap cj),[]⟩)
  (fun x=>l.length - x) 0 ⟨Nat.zero_le _,fun j h=>by omega⟩ ?_ rfl (ao.of_le ⟨by simp[Value.cells],fun w hw=>hw⟩) fun i hi=>?_
 · conv=>whnf
   repeat (first | exact ax.nil | refine ax.any ?_ | refine ax.cons ?_)
 obtain⟨hi,hall⟩:=hi
 conv=>whnf
 repeat (refine aa.of ?_;conv=>whnf)
 refine bT.split (fun hlt=>?_) (fun hlt=>?_)
 · have hlt':i<l.length:=by
    simp only[au,decide_eq_true_eq] at hlt
    omega
   have hok:pd l i=decide ((1≤l[i].owner∧l[i].owner≤10)∧0≤l[i].due∧l[i].due≤2199023255552∧(0<i→hU l[i - 1]!.owner l[i].owner l[i - 1]!.tag l[i].tag<0)):=by
    unfold pd
    rw[cm hlt']
   have hnext:pd l i=true→∀ j,j<i+1→pd l j=true:=fun hs j hj=>by
    rcases Nat.lt_or_eq_of_le (Nat.lt_succ_iff.1 hj) with h5 | h5
    · exact hall j h5
    · exact h5 ▸ hs
   have hq1:=oC l[i].owner
   obtain⟨q1,heq1⟩ : ∃ q,q=decide (1≤l[i].owner∧l[i].owner≤10):=⟨_,rfl⟩
   rw[← heq1] at hq1
   conv=>whnf
   repeat (refine aa.of ?_;conv=>whnf)
   refine ar.aj (ak.index ae (t:=88) rfl rfl rfl (by first | omega | (dsimp only;omega)) (by first | omega | (dsimp only;omega)) hh.nil fun ad had=>?_)
   conv=>whnf
   repeat (refine aa.of ?_;conv=>whnf)
   refine ar.aj (ak.aU ae (t:=166) rfl rfl (ad:=ad) (k:=i*3) (L:=l.flatMap cj) (m:=cj l[i]) (.fact fun w hw=>had ▸ hw) (by simp) (bj (cf:=cj) (z:=3) (fun _=>rfl) hlt') rfl ?_)
   conv=>whnf
   repeat (refine aa.of ?_;conv=>whnf)
   intro b1
   conv=>whnf
   repeat (refine aa.of ?_;conv=>whnf)
   refine az.draw ae mixed rfl rfl ?_
   conv=>whnf
   rcases Nat.eq_zero_or_pos i with h0 | h0
   · have hg:mr (i:Int) 0=false:=by simp[aH];omega
     repeat' (first
      | (refine And.intro ?_ ?_<;>conv=>whnf)
      | (refine an.same rfl ?_;conv=>whnf)
      | (refine an.row rfl ?_;conv=>whnf)
      | (refine an.call rfl ?_;conv=>whnf)
      | (refine aS.of ?_;conv=>whnf)
      | (refine aa.of ?_;conv=>whnf)
      | (rw[hg];conv=>whnf)
      | (refine aw.val hq1 (fun w hw=>trivial) (fun v D hv=>?_);subst hv;conv=>whnf)
      | (split<;>conv=>whnf)
      | (refine an.mk ?_ ?_;(focus (first | exact ao.refl _ | exact ao.left _ _ | exact ao.of_le ⟨List.sublist_append_left _ _,fun w h=>h⟩ | exact ao.of_le ⟨List.Sublist.refl _,fun w h=>h.1⟩));conv=>whnf))
     all_goals first
      | (refine⟨_,ao.refl _,?_⟩;rw[aZ hlt' (by rw[hok];((try subst heq1);(try subst heq2);(try subst heq3);simp only[cond_true,cond_false,au,aJ,aH,aI,aO,aN,decide_eq_true_eq,decide_eq_false_iff_not,beq_iff_eq,bne_iff_ne,ne_eq,beq_eq_false_iff_ne,bne_eq_false_iff_eq,Bool.not_eq_true,Bool.not_eq_false,Bool.and_true,Bool.true_and,Bool.and_false,Bool.false_and,Bool.or_true,Bool.or_false,Bool.true_or,Bool.false_or,Bool.not_eq_true',Bool.not_eq_false',Bool.not_true,Bool.not_false] at *;first | omega | (simp_all;done) | (simp_all;omega)))];first | done | rfl)
      | (
       refine⟨i+1,⟨⟨hlt',hnext (by rw[hok];((try subst heq1);(try subst heq2);(try subst heq3);simp only[cond_true,cond_false,au,aJ,aH,aI,aO,aN,decide_eq_true_eq,decide_eq_false_iff_not,beq_iff_eq,bne_iff_ne,ne_eq,beq_eq_false_iff_ne,bne_eq_false_iff_eq,Bool.not_eq_true,Bool.not_eq_false,Bool.and_true,Bool.true_and,Bool.and_false,Bool.false_and,Bool.or_true,Bool.or_false,Bool.true_or,Bool.false_or,Bool.not_eq_true',Bool.not_eq_false',Bool.not_true,Bool.not_false] at *;first | omega | (simp_all;done) | (simp_all;omega)))⟩,by dsimp only;omega⟩,?_,?_,ao.refl _⟩;(conv=>whnf);refine⟨?_,rfl⟩;repeat (first | exact ax.nil | refine ax.any ?_ | refine ax.cons ?_ | refine ax.eq (by rw[wrap_i64 (by omega)];rfl) ?_)
       (conv=>whnf);exact trivial)
   · have hg:mr (i:Int) 0=true:=by simp[aH];omega
     have hj:i - 1<l.length:=by omega
     have hw1:IntKind.i64.wrap ((i:Int) - 1)=((i - 1:Nat):Int):=by
      rw[wrap_i64 (by omega)]
      omega
     try rw[cm hj] at hok
     repeat' (first
      | (refine And.intro ?_ ?_<;>conv=>whnf)
      | (refine an.same rfl ?_;conv=>whnf)
      | (refine an.row rfl ?_;conv=>whnf)
      | (refine an.call rfl ?_;conv=>whnf)
      | (refine aS.of ?_;conv=>whnf)
      | (refine aa.of ?_;conv=>whnf)
      | (rw[hg];conv=>whnf)
      | (refine aw.val hq1 (fun w hw=>trivial) (fun v D hv=>?_);subst hv;conv=>whnf)
      | (refine ak.index ae (t:=88) rfl rfl rfl (by first | omega | (dsimp only;omega)) (by first | omega | (dsimp only;omega)) hh.nil fun ad2 had2=>?_;conv=>whnf)
      | (refine ak.aU ae (t:=166) rfl rfl (ad:=ad2) (k:=(i - 1)*3) (L:=l.flatMap cj) (m:=cj l[i - 1]) (.fact fun w hw=>had2 ▸ hw) (by rw[hw1];simp) (bj (cf:=cj) (z:=3) (fun _=>rfl) hj) rfl ?_;conv=>whnf)
      | (refine aw.val (m8 l[i - 1].owner l[i - 1].tag l[i - 1].due l[i].owner l[i].tag l[i].due) (fun w hw=>trivial) (fun v D hv=>?_);subst hv;conv=>whnf)
      | (split<;>conv=>whnf)
      | (refine an.mk ?_ ?_;(focus (first | exact ao.refl _ | exact ao.left _ _ | exact ao.of_le ⟨List.sublist_append_left _ _,fun w h=>h⟩ | exact ao.of_le ⟨List.Sublist.refl _,fun w h=>h.1⟩));conv=>whnf))
     all_goals first
      | (refine⟨_,ao.refl _,?_⟩;rw[aZ hlt' (by rw[hok];((try subst heq1);(try subst heq2);(try subst heq3);simp only[cond_true,cond_false,au,aJ,aH,aI,aO,aN,decide_eq_true_eq,decide_eq_false_iff_not,beq_iff_eq,bne_iff_ne,ne_eq,beq_eq_false_iff_ne,bne_eq_false_iff_eq,Bool.not_eq_true,Bool.not_eq_false,Bool.and_true,Bool.true_and,Bool.and_false,Bool.false_and,Bool.or_true,Bool.or_false,Bool.true_or,Bool.false_or,Bool.not_eq_true',Bool.not_eq_false',Bool.not_true,Bool.not_false] at *;first | omega | (simp_all;done) | (simp_all;omega)))];first | done | rfl)
      | (
       refine⟨i+1,⟨⟨hlt',hnext (by rw[hok];((try subst heq1);(try subst heq2);(try subst heq3);simp only[cond_true,cond_false,au,aJ,aH,aI,aO,aN,decide_eq_true_eq,decide_eq_false_iff_not,beq_iff_eq,bne_iff_ne,ne_eq,beq_eq_false_iff_ne,bne_eq_false_iff_eq,Bool.not_eq_true,Bool.not_eq_false,Bool.and_true,Bool.true_and,Bool.and_false,Bool.false_and,Bool.or_true,Bool.or_false,Bool.true_or,Bool.false_or,Bool.not_eq_true',Bool.not_eq_false',Bool.not_true,Bool.not_false] at *;first | omega | (simp_all;done) | (simp_all;omega)))⟩,by dsimp only;omega⟩,?_,?_,ao.refl _⟩;(conv=>whnf);refine⟨?_,rfl⟩;repeat (first | exact ax.nil | refine ax.any ?_ | refine ax.cons ?_ | refine ax.eq (by rw[wrap_i64 (by omega)];rfl) ?_)
       (conv=>whnf);exact trivial)
 · have hie:i=l.length:=by
    simp only[au,decide_eq_false_iff_not] at hlt
    omega
   subst hie
   conv=>whnf
   repeat (refine aa.of ?_;conv=>whnf)
   refine⟨_,ao.refl _,?_⟩
   rw[bH hall,Bool.true_and]
   congr 1
   rw[Bool.eq_iff_iff]
   simp[aI,aJ]
   try omega
structure Gr where
 owner:Int
 grantee:Int
 frame:Int
 rights:Int
 deriving Inhabited
def b_ (x:Gr):List Value:=[.int .i64 x.owner,.int .i64 x.grantee,.int .i64 x.frame,.int .i64 x.rights]
theorem iU (a:Int):ah Tryz.prog 236 [.int .i64 a] (fun _=>True) (fun v F=>v = .bool (decide (1≤a∧a<32))):=by
 refine ah.aK ae Tryz.func236 rfl (by decide) (n:=Tryz.f236.ntmps - 1) rfl rfl fun w0 av=>?_
 conv=>whnf
 repeat (refine aa.of ?_;conv=>whnf)
 exact⟨_,ao.refl _,by congr 1;rw[Bool.eq_iff_iff];simp[aI,au,aJ,aH,aO,aN,and_assoc];try omega⟩
theorem gJ (a:Int):ah Tryz.prog 201 [.int .i64 a] (fun _=>True) (fun v F=>v = .bool (decide (1≤a∧a≤3))):=by
 refine ah.aK ae Tryz.func201 rfl (by decide) (n:=Tryz.f201.ntmps - 1) rfl rfl fun w0 av=>?_
 conv=>whnf
 repeat (refine aa.of ?_;conv=>whnf)
 exact⟨_,ao.refl _,by congr 1;rw[Bool.eq_iff_iff];simp[aI,au,aJ,aH,aO,aN,and_assoc];try omega⟩
def nZ (a b:Int):Bool:=bJ (Sx.bits .andNot .i64 b a) 0
theorem kB (a b:Int):ah Tryz.prog 204 [.int .i64 a,.int .i64 b] (fun _=>True) (fun v F=>v = .bool (nZ a b)):=by
 refine ah.aK ae Tryz.func204 rfl (by decide) (n:=Tryz.f204.ntmps - 2) rfl rfl fun w0 av=>?_
 conv=>whnf
 repeat (refine aa.of ?_;conv=>whnf)
 exact⟨_,ao.refl _,rfl⟩
def zf (x:Gr):Bool:=decide ((1≤x.owner∧x.owner<32)∧(1≤x.grantee∧x.grantee<32)∧x.owner≠x.grantee∧x.grantee≠4∧0≤x.frame∧x.frame<96∧(1≤x.rights∧x.rights≤3))
theorem mF (x:Gr):ah Tryz.prog 192 [.agg ⟨b_ x⟩] (fun _=>True) (fun v F=>v = .bool (zf x)):=by
 have h1:=iU x.owner
 have h2:=iU x.grantee
 have h3:=gJ x.rights
 have hr:zf x=(decide (1≤x.owner∧x.owner<32)&&decide (1≤x.grantee∧x.grantee<32)&&decide (x.owner≠x.grantee∧x.grantee≠4∧0≤x.frame∧x.frame<96)&&decide (1≤x.rights∧x.rights≤3)):=by
  unfold zf
  rw[Bool.eq_iff_iff]
  simp only[Bool.and_eq_true,decide_eq_true_eq]
  omega
 rw[hr]
 obtain⟨q1,heq1⟩ : ∃ q,q=decide (1≤x.owner∧x.owner<32):=⟨_,rfl⟩
 obtain⟨q2,heq2⟩ : ∃ q,q=decide (1≤x.grantee∧x.grantee<32):=⟨_,rfl⟩
 obtain⟨q3,heq3⟩ : ∃ q,q=decide (1≤x.rights∧x.rights≤3):=⟨_,rfl⟩
 rw[← heq1,← heq2,← heq3]
 rw[← heq1] at h1
 rw[← heq2] at h2
 rw[← heq3] at h3
 clear heq1 heq2 heq3 hr
 refine ah.aK ae Tryz.func192 rfl (by decide) (n:=Tryz.f192.ntmps - 1) rfl rfl fun w0 av=>?_
 conv=>whnf
 repeat (refine aa.of ?_;conv=>whnf)
 intro b1
 conv=>whnf
 repeat (refine aa.of ?_;conv=>whnf)
 repeat' (first
  | (refine And.intro ?_ ?_<;>conv=>whnf)
  | (refine an.same rfl ?_;conv=>whnf)
  | (refine an.row rfl ?_;conv=>whnf)
  | (refine an.call rfl ?_;conv=>whnf)
  | (refine aS.of ?_;conv=>whnf)
  | (refine aa.of ?_;conv=>whnf)
  | (refine aw.val h1 (fun w hw=>trivial) (fun v D hv=>?_);subst hv;conv=>whnf)
  | (refine aw.val h2 (fun w hw=>trivial) (fun v D hv=>?_);subst hv;conv=>whnf)
  | (refine aw.val h3 (fun w hw=>trivial) (fun v D hv=>?_);subst hv;conv=>whnf)
  | (cases q1<;>conv=>whnf)
  | (cases q2<;>conv=>whnf)
  | (cases q3<;>conv=>whnf)
  | (split<;>conv=>whnf)
  | (refine an.mk ?_ ?_;(focus (first | exact ao.refl _ | exact ao.left _ _ | exact ao.of_le ⟨List.sublist_append_left _ _,fun w h=>h⟩ | exact ao.of_le ⟨List.Sublist.refl _,fun w h=>h.1⟩));conv=>whnf))
 all_goals refine⟨_,ao.refl _,?_⟩
 all_goals first | rfl | (congr 1;rw[Bool.eq_iff_iff];(try simp only[Bool.cond_true,Bool.cond_false,cond_true,cond_false,au,aJ,aH,aI,aO,aN,decide_eq_true_eq,decide_eq_false_iff_not,beq_iff_eq,bne_iff_ne,ne_eq,Bool.and_true,Bool.true_and,Bool.and_false,Bool.false_and,Bool.or_true,Bool.or_false,Bool.true_or,Bool.false_or,Bool.and_eq_true,Bool.or_eq_true,Bool.not_eq_true',Bool.not_eq_false',Bool.not_true,Bool.not_false,Bool.false_eq_true,true_iff,false_iff,iff_true,iff_false,Bool.and_eq_false_imp,Bool.or_eq_false_iff,bne_eq_false_iff_eq,beq_eq_false_iff_ne,and_assoc] at *);(try omega);done)
def kx (l:List Gr) (task frame need:Int):Bool:=decide (1≤need∧need≤3)&&l.any fun x=>bJ x.grantee task&&(bJ x.frame frame&&nZ x.rights need)
theorem og (x:Gr) (b1 b2 b3:Nat) (task frame need:Int):ah Tryz.prog 203 [.agg ⟨b_ x⟩,.pointer (some ⟨b1,0,none⟩),.pointer (some ⟨b2,0,none⟩),.pointer (some ⟨b3,0,none⟩)]
 (fun w=>af w (some ⟨b1,0,none⟩) [.int .i64 task]∧af w (some ⟨b2,0,none⟩) [.int .i64 frame]∧af w (some ⟨b3,0,none⟩) [.int .i64 need]) (fun v F=>v = .bool (bJ x.grantee task&&(bJ x.frame frame&&nZ x.rights need))):=by
 have h1:=kB x.rights need
 generalize nZ x.rights need=q1 at *
 refine ah.aK ae Tryz.func203 rfl (by decide) (n:=Tryz.f203.ntmps - 4) rfl rfl fun w0 av=>?_
 conv=>whnf
 repeat (refine aa.of ?_;conv=>whnf)
 intro b4
 conv=>whnf
 repeat (refine aa.of ?_;conv=>whnf)
 repeat' (first
  | (refine And.intro ?_ ?_<;>conv=>whnf)
  | (refine an.same rfl ?_;conv=>whnf)
  | (refine an.row rfl ?_;conv=>whnf)
  | (refine an.call rfl ?_;conv=>whnf)
  | (refine aS.of ?_;conv=>whnf)
  | (refine aa.of ?_;conv=>whnf)
  | (refine ar.aj (ak.aE ae (t:=3) rfl rfl (ad:=⟨b1,0,none⟩) (k:=0) (L:=[.int .i64 task]) (v:=.int .i64 task) (.fact fun w hw=>hw.1) (fun _=>rfl) rfl ?_);conv=>whnf)
  | (refine ar.aj (ak.aE ae (t:=3) rfl rfl (ad:=⟨b2,0,none⟩) (k:=0) (L:=[.int .i64 frame]) (v:=.int .i64 frame) (.fact fun w hw=>hw.2.1) (fun _=>rfl) rfl ?_);conv=>whnf)
  | (refine ar.aj (ak.aE ae (t:=3) rfl rfl (ad:=⟨b3,0,none⟩) (k:=0) (L:=[.int .i64 need]) (v:=.int .i64 need) (.fact fun w hw=>hw.2.2) (fun _=>rfl) rfl ?_);conv=>whnf)
  | (refine aw.val h1 (fun w hw=>trivial) (fun v D hv=>?_);subst hv;conv=>whnf)
  | (cases q1<;>conv=>whnf)
  | (split<;>conv=>whnf)
  | (refine an.mk ?_ ?_;(focus (first | exact ao.refl _ | exact ao.left _ _ | exact ao.of_le ⟨List.sublist_append_left _ _,fun w h=>h⟩ | exact ao.of_le ⟨List.Sublist.refl _,fun w h=>h.1⟩));conv=>whnf))
 all_goals refine⟨_,ao.refl _,?_⟩
 all_goals first | rfl | (congr 1;rw[Bool.eq_iff_iff];(try simp only[Bool.cond_true,Bool.cond_false,cond_true,cond_false,au,aJ,aH,aI,aO,aN,decide_eq_true_eq,decide_eq_false_iff_not,beq_iff_eq,bne_iff_ne,ne_eq,Bool.and_true,Bool.true_and,Bool.and_false,Bool.false_and,Bool.or_true,Bool.or_false,Bool.true_or,Bool.false_or,Bool.and_eq_true,Bool.or_eq_true,Bool.not_eq_true',Bool.not_eq_false',Bool.not_true,Bool.not_false,Bool.false_eq_true,true_iff,false_iff,iff_true,iff_false,Bool.and_eq_false_imp,Bool.or_eq_false_iff,bne_eq_false_iff_eq,beq_eq_false_iff_ne,and_assoc] at *);(try omega);done)
theorem xO {α:Type} (cf:α→List Value) (hz : ∀ x,(cf x).length=4) (f:FuncId) (Pre:World→Prop) (p:α→Bool) (u0 u1 u2:Value) (l:List α) (h:Hd) (hh:h.Ok l.length) (hl:l.length≤140737488355328) (hf : ∀ e∈l,ah Tryz.prog f [.agg ⟨cf e⟩,u0,u1,u2] Pre (fun v F=>v = .bool (p e))) :
 ah Tryz.prog 237 [h.v l.length,.func (.func f) #[] #[u0,u1,u2]] (fun w=>af w h.a (l.flatMap cf)∧Pre w) (fun v F=>v = .int .i64 (ef (l.findIdx? p))):=by
 refine ah.aK ae Tryz.func237 rfl (by decide) (n:=Tryz.f237.ntmps - 2) rfl rfl fun w0 av=>?_
 conv=>whnf
 refine az.loop ae (ι:=Nat) ([5]++List.range' 8 11) (fun x=>x≤l.length∧∀ j (hj:j<l.length),j<x→p l[j]=false)
  (fun x=>[(8,.v (.int .i64 (x:Int)))]) (fun _=>[]) (fun _=>⟨fun w=>af w h.a (l.flatMap cf)∧Pre w,[]⟩)
  (fun x=>l.length - x) 0 ⟨Nat.zero_le _,fun j hj h=>by omega⟩ ?_ rfl (ao.refl _) fun i hi=>?_
 · conv=>whnf
   repeat (first | exact ax.nil | refine ax.any ?_ | refine ax.cons ?_)
 obtain⟨hi,hall⟩:=hi
 conv=>whnf
 refine bT.split (fun hlt=>?_) (fun hlt=>?_)
 · have hlt':i<l.length:=by
    simp only[au,decide_eq_true_eq] at hlt
    omega
   conv=>whnf
   repeat (refine aa.of ?_;conv=>whnf)
   refine ar.aj (ak.index ae (t:=86) rfl rfl rfl (by omega) (by omega) hh.nil fun ad had=>?_)
   conv=>whnf
   repeat (refine aa.of ?_;conv=>whnf)
   refine ar.aj (ak.aU ae (t:=163) rfl rfl (ad:=ad) (k:=i*4) (L:=l.flatMap cf) (m:=cf l[i]) (.fact fun w hw=>had ▸ hw.1) (by simp) (bj hz hlt') (hz _) ?_)
   conv=>whnf
   repeat (refine aa.of ?_;conv=>whnf)
   refine aw.val (hf _ (List.getElem_mem hlt')) (fun w hw=>hw.2) (fun v D hv=>?_)
   generalize hq:p l[i]=q at hv
   subst hv
   cases q
   · conv=>whnf
     repeat (refine aa.of ?_;conv=>whnf)
     refine⟨i+1,⟨⟨hlt',fun j hj h=>?_⟩,by dsimp only;omega⟩,?_,?_,ao.refl _⟩
     · rcases Nat.lt_or_eq_of_le (Nat.lt_succ_iff.1 h) with h5 | h5
       · exact hall j hj h5
       · subst h5
         exact hq
     · conv=>whnf
       refine⟨?_,rfl⟩
       repeat (first | exact ax.nil | refine ax.any ?_ | refine ax.cons ?_ | refine ax.eq (by rw[wrap_i64 (by omega)];rfl) ?_)
     · conv=>whnf
       exact trivial
   · conv=>whnf
     repeat (refine aa.of ?_;conv=>whnf)
     refine⟨_,ao.refl _,?_⟩
     have:l.findIdx? p=some i:=by
      rw[List.findIdx?_eq_some_iff_getElem]
      exact⟨hlt',hq,fun j hj=>by simpa using hall j (by omega) hj⟩
     rw[this]
     rfl
 · have hie:i=l.length:=by
    simp only[au,decide_eq_false_iff_not] at hlt
    omega
   subst hie
   conv=>whnf
   repeat (refine aa.of ?_;conv=>whnf)
   refine⟨_,ao.refl _,?_⟩
   have:l.findIdx? p=none:=by
    rw[List.findIdx?_eq_none_iff]
    intro x hx
    obtain⟨j,hj,rfl⟩:=List.getElem_of_mem hx
    simpa using hall j hj hj
   rw[this]
   rfl
theorem wM {α:Type} (cf:α→List Value) (hz : ∀ x,(cf x).length=4) (f:FuncId) (Pre:World→Prop) (p:α→Bool) (u0 u1 u2:Value) (l:List α) (h:Hd) (hh:h.Ok l.length) (hl:l.length≤140737488355328) (hf : ∀ e∈l,ah Tryz.prog f [.agg ⟨cf e⟩,u0,u1,u2] Pre (fun v F=>v = .bool (p e))) :
 ah Tryz.prog 202 [h.v l.length,.func (.func f) #[] #[u0,u1,u2]] (fun w=>af w h.a (l.flatMap cf)∧Pre w) (fun v F=>v = .bool (l.any p)):=by
 have hi:=xO cf hz f Pre p u0 u1 u2 l h hh hl hf
 have hv:=da l p
 generalize ef (l.findIdx? p)=j at *
 refine ah.aK ae Tryz.func202 rfl (by decide) (n:=Tryz.f202.ntmps - 2) rfl rfl fun w0 av=>?_
 conv=>whnf
 repeat (refine aa.of ?_;conv=>whnf)
 refine aw.val hi (fun w hw=>hw) (fun v D hv=>?_)
 subst hv
 conv=>whnf
 repeat (refine aa.of ?_;conv=>whnf)
 exact⟨_,ao.refl _,by rw[← hv,aI]⟩
theorem kl (l:List Gr) (h:Hd) (hh:h.Ok l.length) (hl:l.length≤140737488355328) (task frame need:Int) :
 ah Tryz.prog 126 [h.v l.length,.int .i64 task,.int .i64 frame,.int .i64 need] (fun w=>af w h.a (l.flatMap b_)) (fun v F=>v = .bool (kx l task frame need)):=by
 have h1:=gJ need
 have hg : ∀ b1 b2 b3,_:=fun(b1 b2 b3:Nat)=>wM b_ (fun _=>rfl) 203 (fun w=>af w (some ⟨b1,0,none⟩) [.int .i64 task]∧af w (some ⟨b2,0,none⟩) [.int .i64 frame]∧af w (some ⟨b3,0,none⟩) [.int .i64 need])
  (fun x=>bJ x.grantee task&&(bJ x.frame frame&&nZ x.rights need)) (.pointer (some ⟨b1,0,none⟩)) (.pointer (some ⟨b2,0,none⟩)) (.pointer (some ⟨b3,0,none⟩)) l h hh hl (fun e _=>og e b1 b2 b3 task frame need)
 unfold kx
 generalize (l.any fun x=>bJ x.grantee task&&(bJ x.frame frame&&nZ x.rights need))=q2 at *
 generalize decide (1≤need∧need≤3)=q1 at *
 refine ah.aK ae Tryz.func126 rfl (by decide) (n:=Tryz.f126.ntmps - 4) rfl rfl fun w0 av=>?_
 conv=>whnf
 repeat (refine aa.of ?_;conv=>whnf)
 intro b1
 conv=>whnf
 repeat (refine aa.of ?_;conv=>whnf)
 intro b2
 conv=>whnf
 repeat (refine aa.of ?_;conv=>whnf)
 intro b3
 conv=>whnf
 repeat (refine aa.of ?_;conv=>whnf)
 refine aw.val h1 (fun w hw=>trivial) (fun v D hv=>?_)
 subst hv
 conv=>whnf
 repeat (refine aa.of ?_;conv=>whnf)
 cases q1
 · conv=>whnf
   repeat (refine aa.of ?_;conv=>whnf)
   exact⟨_,ao.refl _,rfl⟩
 conv=>whnf
 repeat (refine aa.of ?_;conv=>whnf)
 refine aw.look (hg b1 b2 b3) ((Loc.row _ _).and ((Loc.row _ _).and ((Loc.row _ _).and (Loc.row _ _)))) (fun w hst=>⟨hst.now,aG.box 0 rfl (by simp) rfl w hst,aG.box 1 rfl (by simp) rfl w hst,aG.box 2 rfl (by simp) rfl w hst⟩) ?_
 conv=>whnf
 repeat (refine aa.of ?_;conv=>whnf)
 exact⟨_,ao.refl _,rfl⟩
def bL (x:Int):Value:=.int .i64 x
theorem qg (x:Bool) (l:List Bool) (h:Hd) (hh:h.Ok l.length) (hl:l.length≤140737488355328) :
 ah Tryz.prog 211 [h.v l.length,.bool x] (fun w=>af w h.a (l.map Value.bool)) (fun v F=>v = .int .i64 (ef (l.findIdx? fun y=>x == y))):=by
 refine ah.aK ae Tryz.func211 rfl (by decide) (n:=Tryz.f211.ntmps - 2) rfl rfl fun w0 av=>?_
 conv=>whnf
 refine az.loop ae (ι:=Nat) ([5]++List.range' 8 11) (fun k=>k≤l.length∧∀ j (hj:j<l.length),j<k→(x == l[j])=false)
  (fun x=>[(8,.v (.int .i64 (x:Int)))]) (fun _=>[]) (fun _=>⟨fun w=>af w h.a (l.map Value.bool),[]⟩)
  (fun x=>l.length - x) 0 ⟨Nat.zero_le _,fun j hj h=>by omega⟩ ?_ rfl (ao.refl _) fun i hi=>?_
 · conv=>whnf
   repeat (first | exact ax.nil | refine ax.any ?_ | refine ax.cons ?_)
 obtain⟨hi,hall⟩:=hi
 conv=>whnf
 refine bT.split (fun hlt=>?_) (fun hlt=>?_)
 · have hlt':i<l.length:=by
    simp only[au,decide_eq_true_eq] at hlt
    omega
   conv=>whnf
   repeat (refine aa.of ?_;conv=>whnf)
   refine ar.aj (ak.index ae (t:=273) rfl rfl rfl (by omega) (by omega) hh.nil fun ad had=>?_)
   conv=>whnf
   repeat (refine aa.of ?_;conv=>whnf)
   refine ar.aj (ak.aE ae (t:=4) rfl rfl (ad:=ad) (k:=i) (L:=l.map Value.bool) (v:=.bool l[i]) (.fact fun w hw=>had ▸ hw) (fun hs=>by rw[Nat.mul_one];rfl) (by rw[List.getElem?_map,List.getElem?_eq_getElem hlt'];rfl) ?_)
   conv=>whnf
   repeat (refine aa.of ?_;conv=>whnf)
   generalize hq:(x == l[i])=q
   cases q
   · conv=>whnf
     repeat (refine aa.of ?_;conv=>whnf)
     refine⟨i+1,⟨⟨hlt',fun j hj h=>?_⟩,by dsimp only;omega⟩,?_,?_,ao.refl _⟩
     · rcases Nat.lt_or_eq_of_le (Nat.lt_succ_iff.1 h) with h5 | h5
       · exact hall j hj h5
       · subst h5
         exact hq
     · conv=>whnf
       refine⟨?_,rfl⟩
       repeat (first | exact ax.nil | refine ax.any ?_ | refine ax.cons ?_ | refine ax.eq (by rw[wrap_i64 (by omega)];rfl) ?_)
     · conv=>whnf
       exact trivial
   · conv=>whnf
     repeat (refine aa.of ?_;conv=>whnf)
     refine⟨_,ao.refl _,?_⟩
     have:(l.findIdx? fun y=>x == y)=some i:=by
      rw[List.findIdx?_eq_some_iff_getElem]
      exact⟨hlt',hq,fun j hj=>by simpa using hall j (by omega) hj⟩
     rw[this]
     rfl
 · have hie:i=l.length:=by
    simp only[au,decide_eq_false_iff_not] at hlt
    omega
   subst hie
   conv=>whnf
   repeat (refine aa.of ?_;conv=>whnf)
   refine⟨_,ao.refl _,?_⟩
   have:(l.findIdx? fun y=>x == y)=none:=by
    rw[List.findIdx?_eq_none_iff]
    intro y hy
    obtain⟨j,hj,rfl⟩:=List.getElem_of_mem hy
    simpa using hall j hj hj
   rw[this]
   rfl
theorem nS (x:Bool) (l:List Bool) (h:Hd) (hh:h.Ok l.length) (hl:l.length≤140737488355328) :
 ah Tryz.prog 132 [h.v l.length,.bool x] (fun w=>af w h.a (l.map Value.bool)) (fun v F=>v = .bool (l.any fun y=>x == y)):=by
 have hi:=qg x l h hh hl
 have hv:=da l fun y=>x == y
 generalize ef (l.findIdx? fun y=>x == y)=j at *
 refine ah.aK ae Tryz.func132 rfl (by decide) (n:=Tryz.f132.ntmps - 2) rfl rfl fun w0 av=>?_
 conv=>whnf
 repeat (refine aa.of ?_;conv=>whnf)
 refine aw.val hi (fun w hw=>hw) (fun v D hv=>?_)
 subst hv
 conv=>whnf
 repeat (refine aa.of ?_;conv=>whnf)
 exact⟨_,ao.refl _,by rw[← hv,aI]⟩
theorem qI (x:Int) (l:List Int) (h:Hd) (hh:h.Ok l.length) (hl:l.length≤140737488355328) :
 ah Tryz.prog 197 [h.v l.length,.int .i64 x] (fun w=>af w h.a (l.map bL)) (fun v F=>v = .int .i64 (ef (l.findIdx? fun y=>x == y))):=by
 refine ah.aK ae Tryz.func197 rfl (by decide) (n:=Tryz.f197.ntmps - 2) rfl rfl fun w0 av=>?_
 conv=>whnf
 refine az.loop ae (ι:=Nat) ([5]++List.range' 8 11) (fun k=>k≤l.length∧∀ j (hj:j<l.length),j<k→(x == l[j])=false)
  (fun x=>[(8,.v (.int .i64 (x:Int)))]) (fun _=>[]) (fun _=>⟨fun w=>af w h.a (l.map bL),[]⟩)
  (fun x=>l.length - x) 0 ⟨Nat.zero_le _,fun j hj h=>by omega⟩ ?_ rfl (ao.refl _) fun i hi=>?_
 · conv=>whnf
   repeat (first | exact ax.nil | refine ax.any ?_ | refine ax.cons ?_)
 obtain⟨hi,hall⟩:=hi
 conv=>whnf
 refine bT.split (fun hlt=>?_) (fun hlt=>?_)
 · have hlt':i<l.length:=by
    simp only[au,decide_eq_true_eq] at hlt
    omega
   conv=>whnf
   repeat (refine aa.of ?_;conv=>whnf)
   refine ar.aj (ak.index ae (t:=89) rfl rfl rfl (by omega) (by omega) hh.nil fun ad had=>?_)
   conv=>whnf
   repeat (refine aa.of ?_;conv=>whnf)
   refine ar.aj (ak.aE ae (t:=3) rfl rfl (ad:=ad) (k:=i) (L:=l.map bL) (v:=bL l[i]) (.fact fun w hw=>had ▸ hw) (fun hs=>by rw[Nat.mul_one];rfl) (by rw[List.getElem?_map,List.getElem?_eq_getElem hlt'];rfl) ?_)
   conv=>whnf
   repeat (refine aa.of ?_;conv=>whnf)
   rw[aO]
   generalize hq:(x == l[i])=q
   cases q
   · conv=>whnf
     repeat (refine aa.of ?_;conv=>whnf)
     refine⟨i+1,⟨⟨hlt',fun j hj h=>?_⟩,by dsimp only;omega⟩,?_,?_,ao.refl _⟩
     · rcases Nat.lt_or_eq_of_le (Nat.lt_succ_iff.1 h) with h5 | h5
       · exact hall j hj h5
       · subst h5
         exact hq
     · conv=>whnf
       refine⟨?_,rfl⟩
       repeat (first | exact ax.nil | refine ax.any ?_ | refine ax.cons ?_ | refine ax.eq (by rw[wrap_i64 (by omega)];rfl) ?_)
     · conv=>whnf
       exact trivial
   · conv=>whnf
     repeat (refine aa.of ?_;conv=>whnf)
     refine⟨_,ao.refl _,?_⟩
     have:(l.findIdx? fun y=>x == y)=some i:=by
      rw[List.findIdx?_eq_some_iff_getElem]
      exact⟨hlt',hq,fun j hj=>by simpa using hall j (by omega) hj⟩
     rw[this]
     rfl
 · have hie:i=l.length:=by
    simp only[au,decide_eq_false_iff_not] at hlt
    omega
   subst hie
   conv=>whnf
   repeat (refine aa.of ?_;conv=>whnf)
   refine⟨_,ao.refl _,?_⟩
   have:(l.findIdx? fun y=>x == y)=none:=by
    rw[List.findIdx?_eq_none_iff]
    intro y hy
    obtain⟨j,hj,rfl⟩:=List.getElem_of_mem hy
    simpa using hall j hj hj
   rw[this]
   rfl
theorem nD (x:Int) (l:List Int) (h:Hd) (hh:h.Ok l.length) (hl:l.length≤140737488355328) :
 ah Tryz.prog 120 [h.v l.length,.int .i64 x] (fun w=>af w h.a (l.map bL)) (fun v F=>v = .bool (l.any fun y=>x == y)):=by
 have hi:=qI x l h hh hl
 have hv:=da l fun y=>x == y
 generalize ef (l.findIdx? fun y=>x == y)=j at *
 refine ah.aK ae Tryz.func120 rfl (by decide) (n:=Tryz.f120.ntmps - 2) rfl rfl fun w0 av=>?_
 conv=>whnf
 repeat (refine aa.of ?_;conv=>whnf)
 refine aw.val hi (fun w hw=>hw) (fun v D hv=>?_)
 subst hv
 conv=>whnf
 repeat (refine aa.of ?_;conv=>whnf)
 exact⟨_,ao.refl _,by rw[← hv,aI]⟩
def zL (l:List Gr) (k i:Nat):Bool:=bJ l[k]!.frame l[i]!.frame&&(bJ l[k]!.grantee l[i]!.owner&&nZ l[k]!.rights l[i]!.rights)
def jl (l:List Gr) (s:List Bool) (i:Nat):Nat→Bool
 | 0=>bJ l[i]!.owner 4
 | k+1=>jl l s i k||((s.set i (jl l s i k))[k]! && zL l k i)
def wG (l:List Gr) (x:List Bool×Bool) (i:Nat):List Bool×Bool:=if x.1[i]! then x else (x.1.set i (jl l x.1 i l.length),x.2||jl l x.1 i l.length)
def fj (l:List Gr) (s:List Bool):Nat→List Bool×Bool
 | 0=>(s,false)
 | i+1=>wG l (fj l s i) i
def rQ (l:List Gr):Nat→List Bool→List Bool
 | 0,s=>s
 | f+1,s=>if (fj l s l.length).2 then rQ l f (fj l s l.length).1 else (fj l s l.length).1
def iF (l:List Gr):List Bool:=rQ l (l.length+1) (List.replicate l.length false)
theorem eE (l:List Gr) (s:List Bool) : ∀ i,(fj l s i).1.length=s.length
 | 0=>rfl
 | i+1=>by
  simp only[fj,wG]
  split
  · exact eE l s i
  · rw[List.length_set,eE l s i]
theorem count_set {s:List Bool} {i:Nat} (h:i<s.length) (hf:s[i]! = false) (v:Bool):(s.set i v).count false+(if v then 1 else 0)=s.count false:=by
 rw[cm h] at hf
 have:=List.count_set (a:=v) (b:=false) h
 rw[hf] at this
 have hp:0<s.count false:=List.count_pos_iff.2 (hf ▸ List.getElem_mem h)
 cases v<;>simp at this ⊢<;>omega
theorem mD (l:List Gr) (s:List Bool) (hs:s.length=l.length) : ∀ i,i≤l.length→(fj l s i).1.count false+(if (fj l s i).2 then 1 else 0)≤s.count false
 | 0,_=>by simp[fj]
 | i+1,hi=>by
  have ih:=mD l s hs i (by omega)
  have hl:=eE l s i
  simp only[fj,wG]
  split
  · exact ih
  · rename_i hf
    have:=count_set (s:=(fj l s i).1) (i:=i) (by omega) (by simpa using hf) (jl l (fj l s i).1 i l.length)
    dsimp only
    generalize jl l (fj l s i).1 i l.length=v at *
    generalize (fj l s i).2=u at *
    cases u<;>cases v<;>simp at this ih ⊢<;>omega
theorem nG (s:List Bool) (i:Nat) (v:Bool) (h:i<s.length):laid (s.map Value.bool) i [.bool v]=(s.set i v).map Value.bool:=by
 unfold laid
 rw[List.map_set,List.set_eq_take_append_cons_drop,if_pos (by simpa using h)]
 simp
theorem sw (l:List Gr) (h:Hd) (hh:h.Ok l.length) (hl:l.length≤1000000) :
 ah Tryz.prog 194 [h.v l.length] (fun w=>af w h.a (l.flatMap b_)) (fun v F=>∃ k:Hd,v=k.v l.length∧k.Ok l.length∧F=⟨fun w=>af w k.a ((iF l).map Value.bool),[]⟩):=by
 refine ah.aK ae Tryz.func194 rfl (by decide) (n:=Tryz.f194.ntmps - 1) rfl rfl fun w0 av=>?_
 conv=>whnf
 repeat (refine aa.of ?_;conv=>whnf)
 refine ar.vb ae (t:=273) rfl rfl rfl l.length rfl rfl (by decide) rfl hl (by simp;omega) fun bb=>?_
 have hrow:(List.replicate l.length ([.bool false]:List Value)).flatten=(List.replicate l.length false).map Value.bool:=by
  induction l.length with
  | zero=>rfl
  | succ n ih=>rw[List.replicate_succ,List.flatten_cons,ih];rfl
 conv=>whnf
 repeat (refine aa.of ?_;conv=>whnf)
 refine az.loop ae (ι:=List Bool×Bool×Nat) ([4,5,6,7,8]++List.range' 12 67) (fun x=>x.1.length=l.length∧(if x.2.1 then x.1.count false<x.2.2∧rQ l x.2.2 x.1=iF l else x.1=iF l))
  (fun x=>[(4,.v (.bool x.2.1))]) (fun _=>[]) (fun x=>⟨fun w=>af w h.a (l.flatMap b_),[(bb,Row.c (x.1.map Value.bool))]⟩)
  (fun x=>if x.2.1 then x.1.count false+1 else 0) (List.replicate l.length false,true,l.length+1) ⟨by simp,by simp[iF]⟩ ?_ rfl (ao.of_le ⟨by rw[← hrow];simp,fun w hw=>hw⟩) fun x hx=>?_
 · conv=>whnf
   repeat (first | exact ax.nil | refine ax.any ?_ | refine ax.cons ?_)
 obtain⟨s,ag,f⟩:=x
 obtain⟨hsl,hx⟩:=hx
 dsimp only at hsl hx ⊢
 conv=>whnf
 repeat (refine aa.of ?_;conv=>whnf)
 cases ag
 · conv=>whnf
   repeat (refine aa.of ?_;conv=>whnf)
   have hx:s=iF l:=hx
   subst hx
   refine⟨⟨fun w=>af w (some ⟨bb,0,none⟩) ((iF l).map Value.bool),[]⟩,?_,⟨some ⟨bb,0,none⟩,l.length⟩,rfl,⟨fun h=>(by cases h),Nat.le_refl _⟩,rfl⟩
   exact ao.trans (G:=⟨fun w=>af w h.a (l.flatMap b_),[] ++ [(bb,Row.c ((iF l).map Value.bool))]⟩) (ao.of_le ⟨by simp,fun w hw=>hw⟩) (ao.trans ao.share1 (ao.imp fun w hw=>hw.2))
 obtain⟨hc,hG⟩:s.count false<f∧rQ l f s=iF l:=by simpa using hx
 conv=>whnf
 repeat (refine aa.of ?_;conv=>whnf)
 refine az.loop ae (ι:=Nat×List Bool×Bool) ([4,5,6,7,8]++List.range' 15 64) (fun x=>x.1≤l.length∧x.2=fj l s x.1)
  (fun x=>[(4,.v (.bool x.2.2)),(15,.v (.int .i64 (x.1:Int)))]) (fun _=>[]) (fun x=>⟨fun w=>af w h.a (l.flatMap b_),[(bb,Row.c (x.2.1.map Value.bool))]⟩)
  (fun x=>l.length - x.1) (0,s,false) ⟨Nat.zero_le _,rfl⟩ ?_ rfl (ao.refl _) fun x hx=>?_
 · conv=>whnf
   repeat (first | exact ax.nil | refine ax.any ?_ | refine ax.cons ?_)
 obtain⟨i,S,u⟩:=x
 obtain⟨hi,hS⟩:=hx
 dsimp only at hi hS ⊢
 conv=>whnf
 repeat (refine aa.of ?_;conv=>whnf)
 refine bT.split (fun hlt=>?_) (fun hlt=>?_)
 · have hlt':i<l.length:=by
    simp only[au,decide_eq_true_eq] at hlt
    omega
   have hSl:=eE l s i
   have hnx:fj l s (i+1)=wG l (fj l s i) i:=rfl
   rw[← hS] at hSl hnx
   unfold wG at hnx
   dsimp only at hSl hnx
   have hSi:i<S.length:=by omega
   have hbi:S[i]! = S[i]:=cm hSi
   conv=>whnf
   repeat (refine aa.of ?_;conv=>whnf)
   refine ar.aj (ak.index ae (t:=86) rfl rfl rfl (by omega) (by omega) hh.nil fun ad had=>?_)
   conv=>whnf
   repeat (refine aa.of ?_;conv=>whnf)
   refine ar.aj (ak.aU ae (t:=163) rfl rfl (ad:=ad) (k:=i*4) (L:=l.flatMap b_) (m:=b_ l[i]) (.fact fun w hw=>had ▸ hw) (by simp) (bj (cf:=b_) (z:=4) (fun _=>rfl) hlt') rfl ?_)
   conv=>whnf
   repeat (refine aa.of ?_;conv=>whnf)
   intro b6
   conv=>whnf
   repeat (refine aa.of ?_;conv=>whnf)
   refine ar.aj (ak.index ae (t:=273) rfl rfl rfl (by omega) (by omega) (fun h=>by cases h) fun ad2 had2=>?_)
   obtain rfl:(⟨bb,0,none⟩:Addr)=ad2:=Option.some.inj had2
   conv=>whnf
   repeat (refine aa.of ?_;conv=>whnf)
   refine ar.aj (ak.aE ae (t:=4) rfl rfl (ad:=⟨bb,0,none⟩) (k:=i) (L:=S.map Value.bool) (v:=.bool S[i]) (aG.row (by simp)) (fun hs=>by rw[Nat.mul_one];rfl) (by rw[List.getElem?_map,List.getElem?_eq_getElem hSi];rfl) ?_)
   conv=>whnf
   repeat (refine aa.of ?_;conv=>whnf)
   generalize hq:S[i]=q at *
   cases q
   rotate_left
   · conv=>whnf
     repeat (refine aa.of ?_;conv=>whnf)
     refine⟨(i+1,S,u),⟨⟨hlt',by rw[hnx,hbi];rfl⟩,by dsimp only;omega⟩,?_,?_,ao.refl _⟩
     · conv=>whnf
       refine⟨?_,rfl⟩
       repeat (first | exact ax.nil | refine ax.any ?_ | refine ax.cons ?_ | refine ax.eq (by rw[wrap_i64 (by omega)];rfl) ?_)
     · conv=>whnf
       exact trivial
   conv=>whnf
   repeat (refine aa.of ?_;conv=>whnf)
   refine ar.aj (ak.index ae (t:=273) rfl rfl rfl (by omega) (by omega) (fun h=>by cases h) fun ad3 had3=>?_)
   obtain rfl:(⟨bb,0,none⟩:Addr)=ad3:=Option.some.inj had3
   conv=>whnf
   repeat (refine aa.of ?_;conv=>whnf)
   refine aM.cv ae (t:=4) rfl (r1:=[]) (r2:=[]) (b:=bb) (k:=i) (C:=S.map Value.bool) (v:=.bool (bJ l[i].owner 4)) (by show(Addr.add ⟨bb,0,none⟩ (i*1))=_;rw[Addr.bG,Nat.mul_one,Nat.zero_add]) rfl (by simp[Value.cells,aW]) (by simp;omega) ?_
   have hvc : ∀ v:Bool,laid (S.map Value.bool) i (Value.bool v).cells.toList=(S.set i v).map Value.bool:=fun v=>nG S i v hSi
   rw[hvc]
   conv=>whnf
   repeat (refine aa.of ?_;conv=>whnf)
   have hw0:jl l S i 0=bJ l[i].owner 4:=by
    unfold jl
    rw[cm hlt']
   rw[← hw0]
   refine az.loop ae (ι:=Nat×Bool) ([7,8]++List.range' 32 40) (fun x=>x.1≤l.length∧x.2=jl l S i x.1)
    (fun x=>[(32,.v (.int .i64 (x.1:Int)))]) (fun _=>[b_ l[i]]) (fun x=>⟨fun w=>af w h.a (l.flatMap b_),[(bb,Row.c ((S.set i x.2).map Value.bool))]⟩)
    (fun x=>l.length - x.1) (0,jl l S i 0) ⟨Nat.zero_le _,rfl⟩ ?_ rfl (ao.of_le ⟨by simp,fun w hw=>hw⟩) fun x hx=>?_
   · conv=>whnf
     repeat (first | exact ax.nil | refine ax.any ?_ | refine ax.cons ?_)
   obtain⟨k,v⟩:=x
   obtain⟨hk,hv⟩:=hx
   dsimp only at hk hv ⊢
   conv=>whnf
   repeat (refine aa.of ?_;conv=>whnf)
   refine bT.split (fun hkt=>?_) (fun hkt=>?_)
   · have hkt':k<l.length:=by
      simp only[au,decide_eq_true_eq] at hkt
      omega
     have hvn:jl l S i (k+1)=(v||((S.set i v)[k]! && (bJ l[k].frame l[i].frame&&(bJ l[k].grantee l[i].owner&&nZ l[k].rights l[i].rights)))):=by
      rw[hv]
      conv=>lhs;unfold jl
      unfold zL
      rw[cm hkt',cm hlt']
     have hsk:k<(S.set i v).length:=by rw[List.length_set];omega
     have hsi:i<(S.set i v).length:=by rw[List.length_set];omega
     have hgi:=kB l[k].rights l[i].rights
     rw[cm hsk] at hvn
     generalize nZ l[k].rights l[i].rights=q5 at *
     have hii:(S.set i v)[i]=v:=by simp
     conv=>whnf
     repeat (refine aa.of ?_;conv=>whnf)
     refine ar.aj (ak.index ae (t:=86) rfl rfl rfl (by omega) (by omega) hh.nil fun ad4 had4=>?_)
     conv=>whnf
     repeat (refine aa.of ?_;conv=>whnf)
     refine ar.aj (ak.aU ae (t:=163) rfl rfl (ad:=ad4) (k:=k*4) (L:=l.flatMap b_) (m:=b_ l[k]) (.fact fun w hw=>had4 ▸ hw) (by simp) (bj (cf:=b_) (z:=4) (fun _=>rfl) hkt') rfl ?_)
     conv=>whnf
     repeat (refine aa.of ?_;conv=>whnf)
     intro b8
     conv=>whnf
     repeat (refine aa.of ?_;conv=>whnf)
     refine ar.aj (ak.index ae (t:=273) rfl rfl rfl (by omega) (by omega) (fun h=>by cases h) fun ad5 had5=>?_)
     obtain rfl:(⟨bb,0,none⟩:Addr)=ad5:=Option.some.inj had5
     conv=>whnf
     repeat (refine aa.of ?_;conv=>whnf)
     refine ar.aj (ak.aE ae (t:=4) rfl rfl (ad:=⟨bb,0,none⟩) (k:=i) (L:=(S.set i v).map Value.bool) (v:=.bool v) (aG.row (by simp)) (fun hs=>by rw[Nat.mul_one];rfl) (by rw[List.getElem?_map,List.getElem?_eq_getElem hsi,hii];rfl) ?_)
     have hset : ∀ x:Bool,laid ((S.set i v).map Value.bool) i (Value.bool x).cells.toList=(S.set i x).map Value.bool:=fun x=>by
      have:=nG (S.set i v) i x hsi
      rw[List.set_set] at this
      exact this
     have hend : ∀ x:Bool,jl l S i (k+1)=x→(⟨k+1,x⟩:Nat×Bool).2=jl l S i (k+1):=fun x hx=>hx.symm
     generalize hsk5:(S.set i v)[k]=sk at *
     generalize ht1:bJ l[k].frame l[i].frame=t1 at hvn
     generalize ht2:bJ l[k].grantee l[i].owner=t2 at hvn
     clear hv
     have hc1:((S.set i v).map Value.bool)[k]? = some (.bool sk):=by rw[List.getElem?_map,List.getElem?_eq_getElem hsk,hsk5];rfl
     generalize (S.set i v)=Sv at *
     cases v
     case' false=>
      conv=>whnf
      repeat (refine aa.of ?_;conv=>whnf)
      refine ar.aj (ak.index ae (t:=273) rfl rfl rfl (by omega) (by omega) (fun h=>by cases h) fun ad6 had6=>?_)
      obtain rfl:(⟨bb,0,none⟩:Addr)=ad6:=Option.some.inj had6
      conv=>whnf
      repeat (refine aa.of ?_;conv=>whnf)
      refine ar.aj (ak.aE ae (t:=4) rfl rfl (ad:=⟨bb,0,none⟩) (k:=k) (L:=Sv.map Value.bool) (v:=.bool sk) (aG.row (by simp)) (fun hs=>by rw[Nat.mul_one];rfl) hc1 ?_)
      cases sk
      case' true=>
       conv=>whnf
       repeat (refine aa.of ?_;conv=>whnf)
       rw[ht1]
       cases t1
       case' true=>
        conv=>whnf
        repeat (refine aa.of ?_;conv=>whnf)
        rw[ht2]
        cases t2
        case' true=>
         conv=>whnf
         repeat (refine aa.of ?_;conv=>whnf)
         refine aw.val hgi (fun w hw=>trivial) (fun v D hv=>?_)
         subst hv
     all_goals
      conv=>whnf
      repeat (refine aa.of ?_;conv=>whnf)
      refine ar.aj (ak.index ae (t:=273) rfl rfl rfl (by omega) (by omega) (fun h=>by cases h) fun ad7 had7=>?_)
      obtain rfl:(⟨bb,0,none⟩:Addr)=ad7:=Option.some.inj had7
      conv=>whnf
      repeat (refine aa.of ?_;conv=>whnf)
      refine aM.cv ae (t:=4) rfl (r1:=[]) (r2:=[]) (b:=bb) (k:=i) (C:=Sv.map Value.bool) (by show(Addr.add ⟨bb,0,none⟩ (i*1))=_;rw[Addr.bG,Nat.mul_one,Nat.zero_add]) rfl (by simp[Value.cells,aW]) (by simp;omega) ?_
      rw[hset]
      conv=>whnf
      repeat (refine aa.of ?_;conv=>whnf)
      refine⟨(k+1,_),⟨⟨hkt',hend _ (by rw[hvn];rfl)⟩,by dsimp only;omega⟩,?_,?_,ao.refl _⟩
      · conv=>whnf
        refine⟨?_,rfl⟩
        repeat (first | exact ax.nil | refine ax.any ?_ | refine ax.cons ?_ | refine ax.eq (by rw[wrap_i64 (by omega)];rfl) ?_)
      · conv=>whnf
        exact⟨⟨rfl,rfl⟩,trivial⟩
   · have hke:k=l.length:=by
      simp only[au,decide_eq_false_iff_not] at hkt
      omega
     subst hke
     rw[← hv,hbi] at hnx
     have hsi:i<(S.set i v).length:=by rw[List.length_set];omega
     have hii:(S.set i v)[i]=v:=by simp
     have hci:((S.set i v).map Value.bool)[i]? = some (.bool v):=by rw[List.getElem?_map,List.getElem?_eq_getElem hsi,hii];rfl
     have hend:(S.set i v,u||v)=fj l s (i+1):=by rw[hnx];rfl
     clear hv
     generalize S.set i v=Sv at *
     conv=>whnf
     repeat (refine aa.of ?_;conv=>whnf)
     cases u
     case' false=>
      conv=>whnf
      repeat (refine aa.of ?_;conv=>whnf)
      refine ar.aj (ak.index ae (t:=273) rfl rfl rfl (by omega) (by omega) (fun h=>by cases h) fun ad6 had6=>?_)
      obtain rfl:(⟨bb,0,none⟩:Addr)=ad6:=Option.some.inj had6
      conv=>whnf
      repeat (refine aa.of ?_;conv=>whnf)
      refine ar.aj (ak.aE ae (t:=4) rfl rfl (ad:=⟨bb,0,none⟩) (k:=i) (L:=Sv.map Value.bool) (v:=.bool v) (aG.row (by simp)) (fun hs=>by rw[Nat.mul_one];rfl) hci ?_)
     all_goals
      conv=>whnf
      repeat (refine aa.of ?_;conv=>whnf)
      refine⟨(i+1,Sv,_),⟨⟨hlt',hend⟩,by dsimp only;omega⟩,?_,?_,ao.refl _⟩
      · conv=>whnf
        refine⟨?_,rfl⟩
        repeat (first | exact ax.nil | refine ax.any ?_ | refine ax.cons ?_ | refine ax.eq (by rw[wrap_i64 (by omega)];rfl) ?_)
      · conv=>whnf
        exact trivial
 · have hie:i=l.length:=by
    simp only[au,decide_eq_false_iff_not] at hlt
    omega
   subst hie
   have hcn:=mD l s hsl l.length (Nat.le_refl _)
   have hln:=eE l s l.length
   have hGf : ∀ g,f=g+1→(if (fj l s l.length).2 then rQ l g (fj l s l.length).1 else (fj l s l.length).1)=iF l:=fun g hg=>by
    rw[← hG,hg]
    rfl
   rw[← hS] at hcn hln hGf
   dsimp only at hcn hln hGf ⊢
   obtain⟨g,rfl⟩ : ∃ g,f=g+1:=⟨f - 1,by omega⟩
   have hGf:=hGf g rfl
   conv=>whnf
   repeat (refine aa.of ?_;conv=>whnf)
   refine⟨(S,u,g),⟨⟨by rw[hln];exact hsl,?_⟩,?_⟩,?_,?_,ao.refl _⟩
   · cases u
     · simpa using hGf
     · simp at hcn hGf ⊢
       exact⟨by omega,hGf⟩
   · cases u<;>simp at hcn ⊢
     omega
   · conv=>whnf
     refine⟨?_,rfl⟩
     repeat (first | exact ax.nil | refine ax.any ?_ | refine ax.cons ?_ | refine ax.eq (by rw[wrap_i64 (by omega)];rfl) ?_)
   · conv=>whnf
     exact trivial
theorem pA (l:List Gr) : ∀ (f:Nat) (s:List Bool),(rQ l f s).length=s.length
 | 0,s=>rfl
 | f+1,s=>by
  simp only[rQ]
  split
  · rw[pA l f,eE]
  · exact eE l s _
theorem v7 (l:List Gr):(iF l).length=l.length:=by
 unfold iF
 rw[pA,List.length_replicate]
def pG (l:List Gr) (j:Nat):Bool:=zf l[j]! && decide (0<j→hU l[j - 1]!.frame l[j]!.frame l[j - 1]!.grantee l[j]!.grantee<0)
theorem nn (l:List Gr) (h:Hd) (hh:h.Ok l.length) (hl:l.length≤1000000) :
 ah Tryz.prog 112 [h.v l.length] (fun w=>af w h.a (l.flatMap b_)) (fun v F=>v = .bool (allI l.length (pG l)&&(decide (l.length≤200) && !((iF l).any fun y=>false == y)))):=by
 refine ah.aK ae Tryz.func112 rfl (by decide) (n:=Tryz.f112.ntmps - 1) rfl rfl fun w0 av=>?_
 conv=>whnf
 repeat (refine aa.of ?_;conv=>whnf)
 refine az.loop ae (ι:=Nat) ([3,4]++List.range' 7 32) (fun x=>x≤l.length∧∀ j,j<x→pG l j=true)
  (fun x=>[(7,.v (.int .i64 (x:Int)))]) (fun _=>[]) (fun _=>⟨fun w=>af w h.a (l.flatMap b_),[]⟩)
  (fun x=>l.length - x) 0 ⟨Nat.zero_le _,fun j h=>by omega⟩ ?_ rfl (ao.of_le ⟨by simp[Value.cells],fun w hw=>hw⟩) fun i hi=>?_
 · conv=>whnf
   repeat (first | exact ax.nil | refine ax.any ?_ | refine ax.cons ?_)
 obtain⟨hi,hall⟩:=hi
 conv=>whnf
 repeat (refine aa.of ?_;conv=>whnf)
 refine bT.split (fun hlt=>?_) (fun hlt=>?_)
 · have hlt':i<l.length:=by
    simp only[au,decide_eq_true_eq] at hlt
    omega
   have hok:pG l i=(zf l[i]&&decide (0<i→hU l[i - 1]!.frame l[i].frame l[i - 1]!.grantee l[i].grantee<0)):=by
    unfold pG
    rw[cm hlt']
   have hnext:pG l i=true→∀ j,j<i+1→pG l j=true:=fun hs j hj=>by
    rcases Nat.lt_or_eq_of_le (Nat.lt_succ_iff.1 hj) with h5 | h5
    · exact hall j h5
    · exact h5 ▸ hs
   have hq1:=mF l[i]
   obtain⟨q1,heq1⟩ : ∃ q,q=zf l[i]:=⟨_,rfl⟩
   rw[← heq1] at hq1
   conv=>whnf
   repeat (refine aa.of ?_;conv=>whnf)
   refine ar.aj (ak.index ae (t:=86) rfl rfl rfl (by first | omega | (dsimp only;omega)) (by first | omega | (dsimp only;omega)) hh.nil fun ad had=>?_)
   conv=>whnf
   repeat (refine aa.of ?_;conv=>whnf)
   refine ar.aj (ak.aU ae (t:=163) rfl rfl (ad:=ad) (k:=i*4) (L:=l.flatMap b_) (m:=b_ l[i]) (.fact fun w hw=>had ▸ hw) (by simp) (bj (cf:=b_) (z:=4) (fun _=>rfl) hlt') rfl ?_)
   conv=>whnf
   repeat (refine aa.of ?_;conv=>whnf)
   intro b1
   conv=>whnf
   repeat (refine aa.of ?_;conv=>whnf)
   refine az.draw ae mixed rfl rfl ?_
   conv=>whnf
   rcases Nat.eq_zero_or_pos i with h0 | h0
   · have hg:mr (i:Int) 0=false:=by simp[aH];omega
     repeat' (first
      | (refine And.intro ?_ ?_<;>conv=>whnf)
      | (refine an.same rfl ?_;conv=>whnf)
      | (refine an.row rfl ?_;conv=>whnf)
      | (refine an.call rfl ?_;conv=>whnf)
      | (refine aS.of ?_;conv=>whnf)
      | (refine aa.of ?_;conv=>whnf)
      | (rw[hg];conv=>whnf)
      | (refine aw.val hq1 (fun w hw=>trivial) (fun v D hv=>?_);subst hv;conv=>whnf)
      | (split<;>conv=>whnf)
      | (refine an.mk ?_ ?_;(focus (first | exact ao.refl _ | exact ao.left _ _ | exact ao.of_le ⟨List.sublist_append_left _ _,fun w h=>h⟩ | exact ao.of_le ⟨List.Sublist.refl _,fun w h=>h.1⟩));conv=>whnf))
     all_goals first
      | (refine⟨_,ao.refl _,?_⟩;rw[aZ hlt' (by rw[hok];((try subst heq1);(try subst heq2);(try subst heq3);simp only[cond_true,cond_false,au,aJ,aH,aI,aO,aN,decide_eq_true_eq,decide_eq_false_iff_not,beq_iff_eq,bne_iff_ne,ne_eq,beq_eq_false_iff_ne,bne_eq_false_iff_eq,Bool.not_eq_true,Bool.not_eq_false,Bool.and_true,Bool.true_and,Bool.and_false,Bool.false_and,Bool.or_true,Bool.or_false,Bool.true_or,Bool.false_or,Bool.not_eq_true',Bool.not_eq_false',Bool.not_true,Bool.not_false] at *;first | omega | (simp_all;done) | (simp_all;omega)))];first | done | rfl)
      | (
       refine⟨i+1,⟨⟨hlt',hnext (by rw[hok];((try subst heq1);(try subst heq2);(try subst heq3);simp only[cond_true,cond_false,au,aJ,aH,aI,aO,aN,decide_eq_true_eq,decide_eq_false_iff_not,beq_iff_eq,bne_iff_ne,ne_eq,beq_eq_false_iff_ne,bne_eq_false_iff_eq,Bool.not_eq_true,Bool.not_eq_false,Bool.and_true,Bool.true_and,Bool.and_false,Bool.false_and,Bool.or_true,Bool.or_false,Bool.true_or,Bool.false_or,Bool.not_eq_true',Bool.not_eq_false',Bool.not_true,Bool.not_false] at *;first | omega | (simp_all;done) | (simp_all;omega)))⟩,by dsimp only;omega⟩,?_,?_,ao.refl _⟩;(conv=>whnf);refine⟨?_,rfl⟩;repeat (first | exact ax.nil | refine ax.any ?_ | refine ax.cons ?_ | refine ax.eq (by rw[wrap_i64 (by omega)];rfl) ?_)
       (conv=>whnf);exact trivial)
   · have hg:mr (i:Int) 0=true:=by simp[aH];omega
     have hj:i - 1<l.length:=by omega
     have hw1:IntKind.i64.wrap ((i:Int) - 1)=((i - 1:Nat):Int):=by
      rw[wrap_i64 (by omega)]
      omega
     try rw[cm hj] at hok
     repeat' (first
      | (refine And.intro ?_ ?_<;>conv=>whnf)
      | (refine an.same rfl ?_;conv=>whnf)
      | (refine an.row rfl ?_;conv=>whnf)
      | (refine an.call rfl ?_;conv=>whnf)
      | (refine aS.of ?_;conv=>whnf)
      | (refine aa.of ?_;conv=>whnf)
      | (rw[hg];conv=>whnf)
      | (refine aw.val hq1 (fun w hw=>trivial) (fun v D hv=>?_);subst hv;conv=>whnf)
      | (refine ak.index ae (t:=86) rfl rfl rfl (by first | omega | (dsimp only;omega)) (by first | omega | (dsimp only;omega)) hh.nil fun ad2 had2=>?_;conv=>whnf)
      | (refine ak.aU ae (t:=163) rfl rfl (ad:=ad2) (k:=(i - 1)*4) (L:=l.flatMap b_) (m:=b_ l[i - 1]) (.fact fun w hw=>had2 ▸ hw) (by rw[hw1];simp) (bj (cf:=b_) (z:=4) (fun _=>rfl) hj) rfl ?_;conv=>whnf)
      | (refine aw.val (m7 l[i - 1].owner l[i - 1].grantee l[i - 1].frame l[i - 1].rights l[i].owner l[i].grantee l[i].frame l[i].rights) (fun w hw=>trivial) (fun v D hv=>?_);subst hv;conv=>whnf)
      | (split<;>conv=>whnf)
      | (refine an.mk ?_ ?_;(focus (first | exact ao.refl _ | exact ao.left _ _ | exact ao.of_le ⟨List.sublist_append_left _ _,fun w h=>h⟩ | exact ao.of_le ⟨List.Sublist.refl _,fun w h=>h.1⟩));conv=>whnf))
     all_goals first
      | (refine⟨_,ao.refl _,?_⟩;rw[aZ hlt' (by rw[hok];((try subst heq1);(try subst heq2);(try subst heq3);simp only[cond_true,cond_false,au,aJ,aH,aI,aO,aN,decide_eq_true_eq,decide_eq_false_iff_not,beq_iff_eq,bne_iff_ne,ne_eq,beq_eq_false_iff_ne,bne_eq_false_iff_eq,Bool.not_eq_true,Bool.not_eq_false,Bool.and_true,Bool.true_and,Bool.and_false,Bool.false_and,Bool.or_true,Bool.or_false,Bool.true_or,Bool.false_or,Bool.not_eq_true',Bool.not_eq_false',Bool.not_true,Bool.not_false] at *;first | omega | (simp_all;done) | (simp_all;omega)))];first | done | rfl)
      | (
       refine⟨i+1,⟨⟨hlt',hnext (by rw[hok];((try subst heq1);(try subst heq2);(try subst heq3);simp only[cond_true,cond_false,au,aJ,aH,aI,aO,aN,decide_eq_true_eq,decide_eq_false_iff_not,beq_iff_eq,bne_iff_ne,ne_eq,beq_eq_false_iff_ne,bne_eq_false_iff_eq,Bool.not_eq_true,Bool.not_eq_false,Bool.and_true,Bool.true_and,Bool.and_false,Bool.false_and,Bool.or_true,Bool.or_false,Bool.true_or,Bool.false_or,Bool.not_eq_true',Bool.not_eq_false',Bool.not_true,Bool.not_false] at *;first | omega | (simp_all;done) | (simp_all;omega)))⟩,by dsimp only;omega⟩,?_,?_,ao.refl _⟩;(conv=>whnf);refine⟨?_,rfl⟩;repeat (first | exact ax.nil | refine ax.any ?_ | refine ax.cons ?_ | refine ax.eq (by rw[wrap_i64 (by omega)];rfl) ?_)
       (conv=>whnf);exact trivial)
 · have hie:i=l.length:=by
    simp only[au,decide_eq_false_iff_not] at hlt
    omega
   subst hie
   conv=>whnf
   repeat (refine aa.of ?_;conv=>whnf)
   have hsu:=sw l h hh hl
   rw[bH hall,Bool.true_and]
   by_cases hn:l.length≤200
   · rw[show mX ((l.length:Nat):Int) 200=true by simp[aJ];omega,decide_eq_true hn,Bool.true_and]
     conv=>whnf
     repeat (refine aa.of ?_;conv=>whnf)
     refine aw.pure hsu (fun w hw=>hw) (fun v D hv=>?_)
     obtain⟨k,rfl,hk,rfl⟩:=hv
     conv=>whnf
     repeat (refine aa.of ?_;conv=>whnf)
     have hsl:=v7 l
     have hb:=nS false (iF l) k (by rw[hsl];exact hk) (by rw[hsl];omega)
     rw[hsl] at hb
     refine aw.val hb (fun w hw=>hw.2) (fun v D hv=>?_)
     subst hv
     conv=>whnf
     repeat (refine aa.of ?_;conv=>whnf)
     exact⟨_,ao.refl _,rfl⟩
   · rw[show mX ((l.length:Nat):Int) 200=false by simp[aJ];omega,decide_eq_false hn]
     conv=>whnf
     repeat (refine aa.of ?_;conv=>whnf)
     exact⟨_,ao.refl _,rfl⟩
def k4 (t:Int):Bool:=gQ t 2&&bJ (Int.tmod t 2) 0
def yN (t:Int):Bool:=gQ t 1&&bJ (Int.tmod t 2) 1
def gk (t op:Int):Bool:=if bJ op 0 then k4 t else yN t
theorem iQ (t:Int):ah Tryz.prog 228 [.int .i64 t] (fun _=>True) (fun v F=>v = .bool (k4 t)):=by
 refine ah.aK ae Tryz.func228 rfl (by decide) (n:=Tryz.f228.ntmps - 1) rfl rfl fun w0 av=>?_
 conv=>whnf
 repeat (refine aa.of ?_;conv=>whnf)
 refine⟨_,ao.refl _,?_⟩
 unfold k4
 cases gQ t 2<;>rfl
theorem jv (t op:Int):ah Tryz.prog 229 [.int .i64 t,.int .i64 op] (fun _=>True) (fun v F=>v = .bool (gk t op)):=by
 refine ah.aK ae Tryz.func229 rfl (by decide) (n:=Tryz.f229.ntmps - 2) rfl rfl fun w0 av=>?_
 conv=>whnf
 repeat (refine aa.of ?_;conv=>whnf)
 refine bT.split (fun h=>?_) (fun h=>?_)
 all_goals
  conv=>whnf
  repeat (refine aa.of ?_;conv=>whnf)
  refine⟨_,ao.refl _,?_⟩
  unfold gk k4 yN
  rw[h]
 · cases gQ t 2<;>rfl
 · cases gQ t 1<;>rfl
theorem gK (t op:Int):ah Tryz.prog 230 [.int .i64 t,.int .i64 op] (fun _=>True) (fun v F=>v = .bool (gk t op)):=by
 refine ah.aK ae Tryz.func230 rfl (by decide) (n:=Tryz.f230.ntmps - 2) rfl rfl fun w0 av=>?_
 conv=>whnf
 repeat (refine aa.of ?_;conv=>whnf)
 refine bT.split (fun h=>?_) (fun h=>?_)
 all_goals
  conv=>whnf
  repeat (refine aa.of ?_;conv=>whnf)
  refine⟨_,ao.refl _,?_⟩
  unfold gk k4 yN
  rw[h]
 · cases gQ t 2<;>rfl
 · cases gQ t 1<;>rfl
structure pB where
 opn:Bool
 tag:Int
 op:Int
 place:Int
 ch:Hd
 cn:Nat
 left:Int
 ltag:Int
 lans:Int
 lh:Hd
 ln:Nat
instance:Inhabited pB:=⟨⟨false,0,0,0,Hd.nil,0,0,0,0,Hd.nil,0⟩⟩
def cG (x:pB):List Value:=[.bool x.opn,.int .i64 x.tag,.int .i64 x.op,.int .i64 x.place,x.ch.v x.cn,.int .i64 x.left,.int .i64 x.ltag,.int .i64 x.lans,x.lh.v x.ln]
def uj (x:pB):List Value:=[.bool x.opn,.int .i64 x.tag,.int .i64 x.op,.int .i64 x.place,x.ch.v x.cn,.int .i64 x.ltag,.int .i64 x.lans,x.lh.v x.ln]
def gh (T:Int→Bool) (dk:Bool) (x:pB):Bool:=
 (bJ x.ltag 0||T x.ltag)&&(if x.opn then T x.tag&&(gQ x.tag x.ltag&&(!dk||(gQ x.left 1&&mX x.left 3)))
  else (!dk||bJ x.left 0)&&(bJ x.tag 0&&(bJ x.op 0&&(bJ x.place 0&&decide (x.cn=0)))))
theorem qK (x:pB):ah Tryz.prog 178 [.agg ⟨cG x⟩] (fun _=>True) (fun v F=>v = .bool (gh k4 true x)):=by
 have h1:=iQ x.ltag
 have h2:=iQ x.tag
 unfold gh
 generalize k4 x.ltag=q1 at *
 generalize k4 x.tag=q2 at *
 refine ah.aK ae Tryz.func178 rfl (by decide) (n:=Tryz.f178.ntmps - 1) rfl rfl fun w0 av=>?_
 conv=>whnf
 repeat (refine aa.of ?_;conv=>whnf)
 intro b1
 conv=>whnf
 repeat (refine aa.of ?_;conv=>whnf)
 repeat' (first
  | (refine And.intro ?_ ?_<;>conv=>whnf)
  | (refine an.same rfl ?_;conv=>whnf)
  | (refine an.row rfl ?_;conv=>whnf)
  | (refine an.call rfl ?_;conv=>whnf)
  | (refine aS.of ?_;conv=>whnf)
  | (refine aa.of ?_;conv=>whnf)
  | (refine aw.val h1 (fun w hw=>trivial) (fun v D hv=>?_);subst hv;conv=>whnf)
  | (refine aw.val h2 (fun w hw=>trivial) (fun v D hv=>?_);subst hv;conv=>whnf)
  | (cases q1<;>conv=>whnf)
  | (cases q2<;>conv=>whnf)
  | (split<;>conv=>whnf)
  | (refine an.mk ?_ ?_;(focus (first | exact ao.refl _ | exact ao.left _ _ | exact ao.of_le ⟨List.sublist_append_left _ _,fun w h=>h⟩ | exact ao.of_le ⟨List.Sublist.refl _,fun w h=>h.1⟩));conv=>whnf))
 all_goals refine⟨_,ao.refl _,?_⟩
 all_goals first | rfl | (congr 1;done) | (congr 1;rw[Bool.eq_iff_iff];simp_all [aI,au,aJ,aH,aO,aN,and_assoc];done) | (congr 1;rw[Bool.eq_iff_iff];simp_all [aI,au,aJ,aH,aO,aN,and_assoc];omega) | (congr 1;rw[Bool.eq_iff_iff];(try cases q1)<;>(try cases q2)<;>(try cases q3)<;>(try simp_all [aI,au,aJ,aH,aO,aN,and_assoc])<;>(try omega);done)
theorem kA (x:pB) (op:Int):ah Tryz.prog 183 [.agg ⟨uj x⟩,.int .i64 op] (fun _=>True) (fun v F=>v = .bool (gh (gk · op) false x)):=by
 have h1:=jv x.ltag op
 have h2:=jv x.tag op
 unfold gh
 dsimp only
 generalize gk x.ltag op=q1 at *
 generalize gk x.tag op=q2 at *
 refine ah.aK ae Tryz.func183 rfl (by decide) (n:=Tryz.f183.ntmps - 2) rfl rfl fun w0 av=>?_
 conv=>whnf
 repeat (refine aa.of ?_;conv=>whnf)
 intro b1
 conv=>whnf
 repeat (refine aa.of ?_;conv=>whnf)
 repeat' (first
  | (refine And.intro ?_ ?_<;>conv=>whnf)
  | (refine an.same rfl ?_;conv=>whnf)
  | (refine an.row rfl ?_;conv=>whnf)
  | (refine an.call rfl ?_;conv=>whnf)
  | (refine aS.of ?_;conv=>whnf)
  | (refine aa.of ?_;conv=>whnf)
  | (refine aw.val h1 (fun w hw=>trivial) (fun v D hv=>?_);subst hv;conv=>whnf)
  | (refine aw.val h2 (fun w hw=>trivial) (fun v D hv=>?_);subst hv;conv=>whnf)
  | (cases q1<;>conv=>whnf)
  | (cases q2<;>conv=>whnf)
  | (split<;>conv=>whnf)
  | (refine an.mk ?_ ?_;(focus (first | exact ao.refl _ | exact ao.left _ _ | exact ao.of_le ⟨List.sublist_append_left _ _,fun w h=>h⟩ | exact ao.of_le ⟨List.Sublist.refl _,fun w h=>h.1⟩));conv=>whnf))
 all_goals refine⟨_,ao.refl _,?_⟩
 all_goals first | rfl | (congr 1;done) | (congr 1;rw[Bool.eq_iff_iff];simp_all [aI,au,aJ,aH,aO,aN,and_assoc];done) | (congr 1;rw[Bool.eq_iff_iff];simp_all [aI,au,aJ,aH,aO,aN,and_assoc];omega) | (congr 1;rw[Bool.eq_iff_iff];(try cases q1)<;>(try cases q2)<;>(try cases q3)<;>(try simp_all [aI,au,aJ,aH,aO,aN,and_assoc])<;>(try omega);done)
theorem ij (x:pB) (op:Int):ah Tryz.prog 184 [.agg ⟨uj x⟩,.int .i64 op] (fun _=>True) (fun v F=>v = .bool (gh (gk · op) false x)):=by
 have h1:=gK x.ltag op
 have h2:=gK x.tag op
 unfold gh
 dsimp only
 generalize gk x.ltag op=q1 at *
 generalize gk x.tag op=q2 at *
 refine ah.aK ae Tryz.func184 rfl (by decide) (n:=Tryz.f184.ntmps - 2) rfl rfl fun w0 av=>?_
 conv=>whnf
 repeat (refine aa.of ?_;conv=>whnf)
 intro b1
 conv=>whnf
 repeat (refine aa.of ?_;conv=>whnf)
 repeat' (first
  | (refine And.intro ?_ ?_<;>conv=>whnf)
  | (refine an.same rfl ?_;conv=>whnf)
  | (refine an.row rfl ?_;conv=>whnf)
  | (refine an.call rfl ?_;conv=>whnf)
  | (refine aS.of ?_;conv=>whnf)
  | (refine aa.of ?_;conv=>whnf)
  | (refine aw.val h1 (fun w hw=>trivial) (fun v D hv=>?_);subst hv;conv=>whnf)
  | (refine aw.val h2 (fun w hw=>trivial) (fun v D hv=>?_);subst hv;conv=>whnf)
  | (cases q1<;>conv=>whnf)
  | (cases q2<;>conv=>whnf)
  | (split<;>conv=>whnf)
  | (refine an.mk ?_ ?_;(focus (first | exact ao.refl _ | exact ao.left _ _ | exact ao.of_le ⟨List.sublist_append_left _ _,fun w h=>h⟩ | exact ao.of_le ⟨List.Sublist.refl _,fun w h=>h.1⟩));conv=>whnf))
 all_goals refine⟨_,ao.refl _,?_⟩
 all_goals first | rfl | (congr 1;done) | (congr 1;rw[Bool.eq_iff_iff];simp_all [aI,au,aJ,aH,aO,aN,and_assoc];done) | (congr 1;rw[Bool.eq_iff_iff];simp_all [aI,au,aJ,aH,aO,aN,and_assoc];omega) | (congr 1;rw[Bool.eq_iff_iff];(try cases q1)<;>(try cases q2)<;>(try cases q3)<;>(try simp_all [aI,au,aJ,aH,aO,aN,and_assoc])<;>(try omega);done)
structure Bs where
 h:Hd
 n:Nat
instance:Inhabited Bs:=⟨⟨Hd.nil,0⟩⟩
def de (x:Bs):Value:=x.h.v x.n
theorem oX (x:Bs):aW (de x)=true:=rfl
theorem ry (x:Bs):ah Tryz.prog 173 [de x] (fun _=>True) (fun v F=>v = .bool (kr (x.n:Int) 128)):=by
 refine ah.aK ae Tryz.func173 rfl (by decide) (n:=Tryz.f173.ntmps - 1) rfl rfl fun w0 av=>?_
 conv=>whnf
 repeat (refine aa.of ?_;conv=>whnf)
 exact⟨_,ao.refl _,rfl⟩
theorem qO (x:Bs):ah Tryz.prog 179 [de x] (fun _=>True) (fun v F=>v = .bool (kr (x.n:Int) 128)):=by
 refine ah.aK ae Tryz.func179 rfl (by decide) (n:=Tryz.f179.ntmps - 1) rfl rfl fun w0 av=>?_
 conv=>whnf
 repeat (refine aa.of ?_;conv=>whnf)
 exact⟨_,ao.refl _,rfl⟩
def dX (n:Nat) (l:List Bs):Bool:=decide (l.length=n) && !(l.any fun x=>kr (x.n:Int) 128)
theorem jG (l:List Bs) (h:Hd) (hh:h.Ok l.length) (hl:l.length≤140737488355328) :
 ah Tryz.prog 103 [.agg ⟨[h.v l.length]⟩] (fun w=>af w h.a (l.map de)) (fun v F=>v = .bool (dX 96 l)):=by
 have hc:=o9 de oX 173 (fun _=>True) (fun x=>kr (x.n:Int) 128) l h hh hl (fun e _=>ry e)
 unfold dX
 generalize (l.any fun x=>kr (x.n:Int) 128)=q1 at *
 refine ah.aK ae Tryz.func103 rfl (by decide) (n:=Tryz.f103.ntmps - 1) rfl rfl fun w0 av=>?_
 conv=>whnf
 repeat (refine aa.of ?_;conv=>whnf)
 intro b1
 conv=>whnf
 repeat (refine aa.of ?_;conv=>whnf)
 repeat' (first
  | (refine And.intro ?_ ?_<;>conv=>whnf)
  | (refine an.same rfl ?_;conv=>whnf)
  | (refine an.row rfl ?_;conv=>whnf)
  | (refine an.call rfl ?_;conv=>whnf)
  | (refine aS.of ?_;conv=>whnf)
  | (refine aa.of ?_;conv=>whnf)
  | (split<;>conv=>whnf)
  | (refine aw.val hc (fun w hw=>⟨hw,trivial⟩) (fun v D hv=>?_);subst hv;conv=>whnf)
  | (refine an.mk ?_ ?_;(focus (first | exact ao.refl _ | exact ao.left _ _ | exact ao.of_le ⟨List.sublist_append_left _ _,fun w h=>h⟩ | exact ao.of_le ⟨List.Sublist.refl _,fun w h=>h.1⟩));conv=>whnf))
 all_goals refine⟨_,ao.refl _,?_⟩
 all_goals first | rfl | (congr 1;done) | (congr 1;rw[Bool.eq_iff_iff];simp_all [aI,au,aJ,aH,aO,aN,and_assoc];done) | (congr 1;rw[Bool.eq_iff_iff];simp_all [aI,au,aJ,aH,aO,aN,and_assoc];omega) | (congr 1;rw[Bool.eq_iff_iff];(try cases q1)<;>(try cases q2)<;>(try cases q3)<;>(try simp_all [aI,au,aJ,aH,aO,aN,and_assoc])<;>(try omega);done)
theorem l0 (l:List Bs) (h:Hd) (hh:h.Ok l.length) (hl:l.length≤140737488355328) (x:pB) :
 ah Tryz.prog 105 [.agg ⟨h.v l.length::cG x⟩] (fun w=>af w h.a (l.map de)) (fun v F=>v = .bool (dX 160 l&&gh k4 true x)):=by
 have hc:=o9 de oX 179 (fun _=>True) (fun x=>kr (x.n:Int) 128) l h hh hl (fun e _=>qO e)
 have h2:=qK x
 unfold dX
 generalize (l.any fun x=>kr (x.n:Int) 128)=q1 at *
 generalize gh k4 true x=q2 at *
 refine ah.aK ae Tryz.func105 rfl (by decide) (n:=Tryz.f105.ntmps - 1) rfl rfl fun w0 av=>?_
 conv=>whnf
 repeat (refine aa.of ?_;conv=>whnf)
 intro b1
 conv=>whnf
 repeat (refine aa.of ?_;conv=>whnf)
 repeat' (first
  | (refine And.intro ?_ ?_<;>conv=>whnf)
  | (refine an.same rfl ?_;conv=>whnf)
  | (refine an.row rfl ?_;conv=>whnf)
  | (refine an.call rfl ?_;conv=>whnf)
  | (refine aS.of ?_;conv=>whnf)
  | (refine aa.of ?_;conv=>whnf)
  | (split<;>conv=>whnf)
  | (refine aw.val hc (fun w hw=>⟨hw,trivial⟩) (fun v D hv=>?_);subst hv;conv=>whnf)
  | (refine aw.val h2 (fun w hw=>trivial) (fun v D hv=>?_);subst hv;conv=>whnf)
  | (refine an.mk ?_ ?_;(focus (first | exact ao.refl _ | exact ao.left _ _ | exact ao.of_le ⟨List.sublist_append_left _ _,fun w h=>h⟩ | exact ao.of_le ⟨List.Sublist.refl _,fun w h=>h.1⟩));conv=>whnf))
 all_goals refine⟨_,ao.refl _,?_⟩
 all_goals first | rfl | (congr 1;done) | (congr 1;rw[Bool.eq_iff_iff];simp_all [aI,au,aJ,aH,aO,aN,and_assoc];done) | (congr 1;rw[Bool.eq_iff_iff];simp_all [aI,au,aJ,aH,aO,aN,and_assoc];omega) | (congr 1;rw[Bool.eq_iff_iff];(try cases q1)<;>(try cases q2)<;>(try cases q3)<;>(try simp_all [aI,au,aJ,aH,aO,aN,and_assoc])<;>(try omega);done)
structure x7 where
 inp:Bs
 at':Int
 pause:Int
 got:Bs
 out:Bs
 co:pB
 ci:pB
instance:Inhabited x7:=⟨⟨default,0,0,default,default,default,default⟩⟩
def fR (x:x7):List Value:=de x.inp :: .int .i64 x.at' :: .int .i64 x.pause::de x.got::de x.out::(uj x.co++uj x.ci)
def tJ (x:x7):Bool:=decide (x.inp.n≤4000∧0≤x.at'∧x.at'≤x.inp.n∧0≤x.pause∧x.pause<128∧x.got.n≤x.at'∧x.out.n≤100000)&&(gh (gk · 0) false x.co&&gh (gk · 1) false x.ci)
theorem jM (x:x7):ah Tryz.prog 107 [.agg ⟨fR x⟩] (fun _=>True) (fun v F=>v = .bool (tJ x)):=by
 have h1:=ij x.co 0
 have h2:=ij x.ci 1
 unfold tJ
 generalize gh (gk · 0) false x.co=q1 at *
 generalize gh (gk · 1) false x.ci=q2 at *
 refine ah.aK ae Tryz.func107 rfl (by decide) (n:=Tryz.f107.ntmps - 1) rfl rfl fun w0 av=>?_
 conv=>whnf
 repeat (refine aa.of ?_;conv=>whnf)
 refine ar.cA fun b1=>?_
 conv=>whnf
 repeat (refine aa.of ?_;conv=>whnf)
 repeat' (first
  | (refine And.intro ?_ ?_<;>conv=>whnf)
  | (refine an.same rfl ?_;conv=>whnf)
  | (refine an.row rfl ?_;conv=>whnf)
  | (refine an.call rfl ?_;conv=>whnf)
  | (refine aS.of ?_;conv=>whnf)
  | (refine aa.of ?_;conv=>whnf)
  | (refine ar.aj (ak.aE ae rfl rfl (ad:=⟨b1,0,none⟩) (k:=_) (L:=fR x) (v:=_) (aG.row (by simp[Value.cells])) (fun _=>rfl) rfl ?_);conv=>whnf)
  | (refine ar.aj (ak.aU ae rfl rfl (ad:=⟨b1,0,none⟩) (k:=_) (L:=fR x) (m:=_) (aG.row (by simp[Value.cells])) rfl rfl rfl ?_);conv=>whnf)
  | (refine aw.val h1 (fun w hw=>trivial) (fun v D hv=>?_);subst hv;conv=>whnf)
  | (refine aw.val h2 (fun w hw=>trivial) (fun v D hv=>?_);subst hv;conv=>whnf)
  | (split<;>conv=>whnf)
  | (refine an.mk ?_ ?_;(focus (first | exact ao.refl _ | exact ao.left _ _ | exact ao.of_le ⟨List.sublist_append_left _ _,fun w h=>h⟩ | exact ao.of_le ⟨List.Sublist.refl _,fun w h=>h.1⟩));conv=>whnf))
 all_goals refine⟨_,ao.refl _,?_⟩
 all_goals first | rfl | (congr 1;done) | (congr 1;rw[Bool.eq_iff_iff];simp_all [aI,au,aJ,aH,aO,aN,and_assoc];done) | (congr 1;rw[Bool.eq_iff_iff];simp_all [aI,au,aJ,aH,aO,aN,and_assoc];omega) | (congr 1;rw[Bool.eq_iff_iff];(try cases q1)<;>(try cases q2)<;>(try cases q3)<;>(try simp_all [aI,au,aJ,aH,aO,aN,and_assoc])<;>(try omega);done)
theorem fK (a:Int):ah Tryz.prog 180 [.int .i64 a] (fun _=>True) (fun v F=>v = .bool (decide (0≤a∧a≤1099511627776))):=by
 refine ah.aK ae Tryz.func180 rfl (by decide) (n:=Tryz.f180.ntmps - 1) rfl rfl fun w0 av=>?_
 conv=>whnf
 repeat (refine aa.of ?_;conv=>whnf)
 exact⟨_,ao.refl _,by congr 1;rw[Bool.eq_iff_iff];simp[aI,aJ]⟩
theorem gp (x:Bs):ah Tryz.prog 181 [de x] (fun _=>True) (fun v F=>v = .bool (decide (1≤x.n∧x.n≤128))):=by
 refine ah.aK ae Tryz.func181 rfl (by decide) (n:=Tryz.f181.ntmps - 1) rfl rfl fun w0 av=>?_
 conv=>whnf
 repeat (refine aa.of ?_;conv=>whnf)
 exact⟨_,ao.refl _,by congr 1;rw[Bool.eq_iff_iff];simp[aI,aJ];omega⟩
theorem pN (x:Bs):ah Tryz.prog 182 [de x] (fun _=>True) (fun v F=>v = .bool (!decide (1≤x.n∧x.n≤128))):=by
 have h1:=gp x
 generalize decide (1≤x.n∧x.n≤128)=q1 at *
 refine ah.aK ae Tryz.func182 rfl (by decide) (n:=Tryz.f182.ntmps - 1) rfl rfl fun w0 av=>?_
 conv=>whnf
 repeat (refine aa.of ?_;conv=>whnf)
 refine aw.val h1 (fun w hw=>trivial) (fun v D hv=>?_)
 subst hv
 conv=>whnf
 repeat (refine aa.of ?_;conv=>whnf)
 exact⟨_,ao.refl _,rfl⟩
structure yb where
 due:Int
 data:Bs
instance:Inhabited yb:=⟨⟨0,default⟩⟩
def bV (x:yb):List Value:=[.int .i64 x.due,de x.data]
structure wJ where
 pat:Bs
 now:Int
 sent:Int
 first:Int
 fh:Hd
 fly:List yb
 wh:Hd
 wait:List Bs
 co:pB
 ci:pB
def eQ (x:wJ):List Value:=de x.pat :: .int .i64 x.now :: .int .i64 x.sent :: .int .i64 x.first::x.fh.v x.fly.length::x.wh.v x.wait.length::(uj x.co++uj x.ci)
def nz (now:Int) (l:List yb) (j:Nat):Bool:=decide ((1≤l[j]!.data.n∧l[j]!.data.n≤128)∧now<l[j]!.due∧l[j]!.due≤IntKind.i64.wrap (now+8)∧(0<j→l[j - 1]!.due≤l[j]!.due))
def ta (a:Int):Bool:=decide (0≤a∧a≤1099511627776)
def sW (x:wJ):Bool:=(decide (x.pat.n≤200)&&ta x.now&&ta x.sent&&ta x.first&&decide (x.fly.length≤400)&&decide (x.wait.length≤64)) &&
 (allI x.fly.length (nz x.now x.fly)&&(!(x.wait.any fun b=>!decide (1≤b.n∧b.n≤128))&&(gh (gk · 0) false x.co&&gh (gk · 1) false x.ci)))
theorem lW (x:wJ) (hh:x.fh.Ok x.fly.length) (hl:x.fly.length≤140737488355328) (hwh:x.wh.Ok x.wait.length) (hwl:x.wait.length≤140737488355328) :
 ah Tryz.prog 106 [.agg ⟨eQ x⟩] (fun w=>af w x.fh.a (x.fly.flatMap bV)∧af w x.wh.a (x.wait.map de)) (fun v F=>v = .bool (sW x)):=by
 obtain⟨pat,now,sent,first,h,l,wh,wait,co,ci⟩:=x
 dsimp only at hh hl hwh hwl ⊢
 have h1:=kA co 0
 have h2:=kA ci 1
 have hn1:=fK now
 have hn2:=fK sent
 have hn3:=fK first
 have hc:=o9 de oX 182 (fun _=>True) (fun b=>!decide (1≤b.n∧b.n≤128)) wait wh hwh hwl (fun e _=>pN e)
 unfold sW ta
 generalize (wait.any fun b=>!decide (1≤b.n∧b.n≤128))=q4 at *
 generalize gh (gk · 0) false co=q5 at *
 generalize gh (gk · 1) false ci=q6 at *
 obtain⟨n1,hm1⟩ : ∃ q,q=decide (0≤now∧now≤1099511627776):=⟨_,rfl⟩
 obtain⟨n2,hm2⟩ : ∃ q,q=decide (0≤sent∧sent≤1099511627776):=⟨_,rfl⟩
 obtain⟨n3,hm3⟩ : ∃ q,q=decide (0≤first∧first≤1099511627776):=⟨_,rfl⟩
 rw[← hm1] at hn1 ⊢
 rw[← hm2] at hn2 ⊢
 rw[← hm3] at hn3 ⊢
 clear hm1 hm2 hm3
 dsimp only
 refine ah.aK ae Tryz.func106 rfl (by decide) (n:=Tryz.f106.ntmps - 1) rfl rfl fun w0 av=>?_
 conv=>whnf
 repeat (refine aa.of ?_;conv=>whnf)
 refine ar.cA fun br=>?_
 conv=>whnf
 repeat (refine aa.of ?_;conv=>whnf)
 repeat' (first
  | (refine And.intro ?_ ?_<;>conv=>whnf)
  | (refine an.same rfl ?_;conv=>whnf)
  | (refine an.row rfl ?_;conv=>whnf)
  | (refine an.call rfl ?_;conv=>whnf)
  | (refine aS.of ?_;conv=>whnf)
  | (refine aa.of ?_;conv=>whnf)
  | (refine ar.aj (ak.aE ae rfl rfl (ad:=⟨br,0,none⟩) (k:=_) (L:=eQ ⟨pat,now,sent,first,h,l,wh,wait,co,ci⟩) (v:=_) (aG.row (by simp[Value.cells])) (fun _=>rfl) rfl ?_);conv=>whnf)
  | (refine aw.val hn1 (fun w hw=>trivial) (fun v D hv=>?_);subst hv;conv=>whnf)
  | (refine aw.val hn2 (fun w hw=>trivial) (fun v D hv=>?_);subst hv;conv=>whnf)
  | (refine aw.val hn3 (fun w hw=>trivial) (fun v D hv=>?_);subst hv;conv=>whnf)
  | (split<;>conv=>whnf)
  | (refine an.mk ?_ ?_;(focus (first | exact ao.refl _ | exact ao.left _ _ | exact ao.of_le ⟨List.sublist_append_left _ _,fun w h=>h⟩ | exact ao.of_le ⟨List.Sublist.refl _,fun w h=>h.1⟩));conv=>whnf))
 all_goals try (refine⟨_,ao.refl _,?_⟩;congr 1;rw[Bool.eq_iff_iff];simp_all [aH];first | done | omega)
 have hpre:(decide (pat.n≤200)&&n1&&n2&&n3&&decide (l.length≤400)&&decide (wait.length≤64))=true:=by
  simp_all [aH]
  first | done | omega
 rw[hpre,Bool.true_and]
 refine az.loop ae (ι:=Nat) ([3,4]++List.range' 42 41) (fun x=>x≤l.length∧∀ j,j<x→nz now l j=true)
  (fun x=>[(42,.v (.int .i64 (x:Int)))]) (fun _=>[]) (fun _=>⟨fun w=>af w h.a (l.flatMap bV)∧af w wh.a (wait.map de),[(br,Row.c (eQ ⟨pat,now,sent,first,h,l,wh,wait,co,ci⟩))]⟩)
  (fun x=>l.length - x) 0 ⟨Nat.zero_le _,fun j h=>by omega⟩ ?_ rfl (ao.of_le ⟨by simp[Value.cells],fun w hw=>hw⟩) fun i hi=>?_
 · conv=>whnf
   repeat (first | exact ax.nil | refine ax.any ?_ | refine ax.cons ?_)
 obtain⟨hi,hall⟩:=hi
 conv=>whnf
 repeat (refine aa.of ?_;conv=>whnf)
 refine bT.split (fun hlt=>?_) (fun hlt=>?_)
 · have hlt':i<l.length:=by
    simp only[au,decide_eq_true_eq] at hlt
    omega
   have hok:nz now l i=decide ((1≤l[i].data.n∧l[i].data.n≤128)∧now<l[i].due∧l[i].due≤IntKind.i64.wrap (now+8)∧(0<i→l[i - 1]!.due≤l[i].due)):=by
    unfold nz
    rw[cm hlt']
   have hnext:nz now l i=true→∀ j,j<i+1→nz now l j=true:=fun hs j hj=>by
    rcases Nat.lt_or_eq_of_le (Nat.lt_succ_iff.1 hj) with h5 | h5
    · exact hall j h5
    · exact h5 ▸ hs
   have hq1:=gp l[i].data
   obtain⟨q1,heq1⟩ : ∃ q,q=decide (1≤l[i].data.n∧l[i].data.n≤128):=⟨_,rfl⟩
   rw[← heq1] at hq1
   conv=>whnf
   repeat (refine aa.of ?_;conv=>whnf)
   refine ar.aj (ak.index ae (t:=103) rfl rfl rfl (by first | omega | (dsimp only;omega)) (by first | omega | (dsimp only;omega)) hh.nil fun ad had=>?_)
   conv=>whnf
   repeat (refine aa.of ?_;conv=>whnf)
   refine ar.aj (ak.aU ae (t:=173) rfl rfl (ad:=ad) (k:=i*2) (L:=l.flatMap bV) (m:=bV l[i]) (.fact fun w hw=>had ▸ hw.1) (by simp) (bj (cf:=bV) (z:=2) (fun _=>rfl) hlt') rfl ?_)
   conv=>whnf
   repeat (refine aa.of ?_;conv=>whnf)
   intro b1
   conv=>whnf
   repeat (refine aa.of ?_;conv=>whnf)
   refine az.draw ae mixed rfl rfl ?_
   conv=>whnf
   rcases Nat.eq_zero_or_pos i with h0 | h0
   · have hg:mr (i:Int) 0=false:=by simp[aH];omega
     repeat' (first
      | (refine And.intro ?_ ?_<;>conv=>whnf)
      | (refine an.same rfl ?_;conv=>whnf)
      | (refine an.row rfl ?_;conv=>whnf)
      | (refine an.call rfl ?_;conv=>whnf)
      | (refine aS.of ?_;conv=>whnf)
      | (refine aa.of ?_;conv=>whnf)
      | (rw[hg];conv=>whnf)
      | (refine ak.aE ae rfl rfl (ad:=⟨br,0,none⟩) (k:=_) (L:=eQ ⟨pat,now,sent,first,h,l,wh,wait,co,ci⟩) (v:=_) (aG.row (by simp[Value.cells])) (fun _=>rfl) rfl ?_;conv=>whnf)
      | (refine aw.val hq1 (fun w hw=>trivial) (fun v D hv=>?_);subst hv;conv=>whnf)
      | (split<;>conv=>whnf)
      | (refine an.mk ?_ ?_;(focus (first | exact ao.refl _ | exact ao.left _ _ | exact ao.of_le ⟨List.sublist_append_left _ _,fun w h=>h⟩ | exact ao.of_le ⟨List.Sublist.refl _,fun w h=>h.1⟩));conv=>whnf))
     all_goals first
      | (refine⟨_,ao.refl _,?_⟩;rw[aZ hlt' (by rw[hok];((try subst heq1);(try subst heq2);(try subst heq3);simp only[cond_true,cond_false,au,aJ,aH,aI,aO,aN,decide_eq_true_eq,decide_eq_false_iff_not,beq_iff_eq,bne_iff_ne,ne_eq,beq_eq_false_iff_ne,bne_eq_false_iff_eq,Bool.not_eq_true,Bool.not_eq_false,Bool.and_true,Bool.true_and,Bool.and_false,Bool.false_and,Bool.or_true,Bool.or_false,Bool.true_or,Bool.false_or,Bool.not_eq_true',Bool.not_eq_false',Bool.not_true,Bool.not_false] at *;first | omega | (simp_all;done) | (simp_all;omega)))];first | done | rfl)
      | (
       refine⟨i+1,⟨⟨hlt',hnext (by rw[hok];((try subst heq1);(try subst heq2);(try subst heq3);simp only[cond_true,cond_false,au,aJ,aH,aI,aO,aN,decide_eq_true_eq,decide_eq_false_iff_not,beq_iff_eq,bne_iff_ne,ne_eq,beq_eq_false_iff_ne,bne_eq_false_iff_eq,Bool.not_eq_true,Bool.not_eq_false,Bool.and_true,Bool.true_and,Bool.and_false,Bool.false_and,Bool.or_true,Bool.or_false,Bool.true_or,Bool.false_or,Bool.not_eq_true',Bool.not_eq_false',Bool.not_true,Bool.not_false] at *;first | omega | (simp_all;done) | (simp_all;omega)))⟩,by dsimp only;omega⟩,?_,?_,ao.refl _⟩;(conv=>whnf);refine⟨?_,rfl⟩;repeat (first | exact ax.nil | refine ax.any ?_ | refine ax.cons ?_ | refine ax.eq (by rw[wrap_i64 (by omega)];rfl) ?_)
       (conv=>whnf);exact trivial)
   · have hg:mr (i:Int) 0=true:=by simp[aH];omega
     have hj:i - 1<l.length:=by omega
     have hw1:IntKind.i64.wrap ((i:Int) - 1)=((i - 1:Nat):Int):=by
      rw[wrap_i64 (by omega)]
      omega
     try rw[cm hj] at hok
     repeat' (first
      | (refine And.intro ?_ ?_<;>conv=>whnf)
      | (refine an.same rfl ?_;conv=>whnf)
      | (refine an.row rfl ?_;conv=>whnf)
      | (refine an.call rfl ?_;conv=>whnf)
      | (refine aS.of ?_;conv=>whnf)
      | (refine aa.of ?_;conv=>whnf)
      | (rw[hg];conv=>whnf)
      | (refine ak.aE ae rfl rfl (ad:=⟨br,0,none⟩) (k:=_) (L:=eQ ⟨pat,now,sent,first,h,l,wh,wait,co,ci⟩) (v:=_) (aG.row (by simp[Value.cells])) (fun _=>rfl) rfl ?_;conv=>whnf)
      | (refine aw.val hq1 (fun w hw=>trivial) (fun v D hv=>?_);subst hv;conv=>whnf)
      | (refine ak.index ae (t:=103) rfl rfl rfl (by first | omega | (dsimp only;omega)) (by first | omega | (dsimp only;omega)) hh.nil fun ad2 had2=>?_;conv=>whnf)
      | (refine ak.aE ae (t:=3) rfl rfl (ad:=ad2) (k:=(i - 1)*2) (L:=l.flatMap bV) (v:=.int .i64 l[i - 1].due) (.fact fun w hw=>had2 ▸ hw.1) (fun hs=>by rw[hw1];rfl) (eY (cf:=bV) (z:=2) (fun _=>rfl) hj (k:=0) (by decide)) ?_;conv=>whnf)
      | (split<;>conv=>whnf)
      | (refine an.mk ?_ ?_;(focus (first | exact ao.refl _ | exact ao.left _ _ | exact ao.of_le ⟨List.sublist_append_left _ _,fun w h=>h⟩ | exact ao.of_le ⟨List.Sublist.refl _,fun w h=>h.1⟩));conv=>whnf))
     all_goals first
      | (refine⟨_,ao.refl _,?_⟩;rw[aZ hlt' (by rw[hok];((try subst heq1);(try subst heq2);(try subst heq3);simp only[cond_true,cond_false,au,aJ,aH,aI,aO,aN,decide_eq_true_eq,decide_eq_false_iff_not,beq_iff_eq,bne_iff_ne,ne_eq,beq_eq_false_iff_ne,bne_eq_false_iff_eq,Bool.not_eq_true,Bool.not_eq_false,Bool.and_true,Bool.true_and,Bool.and_false,Bool.false_and,Bool.or_true,Bool.or_false,Bool.true_or,Bool.false_or,Bool.not_eq_true',Bool.not_eq_false',Bool.not_true,Bool.not_false] at *;first | omega | (simp_all;done) | (simp_all;omega)))];first | done | rfl)
      | (
       refine⟨i+1,⟨⟨hlt',hnext (by rw[hok];((try subst heq1);(try subst heq2);(try subst heq3);simp only[cond_true,cond_false,au,aJ,aH,aI,aO,aN,decide_eq_true_eq,decide_eq_false_iff_not,beq_iff_eq,bne_iff_ne,ne_eq,beq_eq_false_iff_ne,bne_eq_false_iff_eq,Bool.not_eq_true,Bool.not_eq_false,Bool.and_true,Bool.true_and,Bool.and_false,Bool.false_and,Bool.or_true,Bool.or_false,Bool.true_or,Bool.false_or,Bool.not_eq_true',Bool.not_eq_false',Bool.not_true,Bool.not_false] at *;first | omega | (simp_all;done) | (simp_all;omega)))⟩,by dsimp only;omega⟩,?_,?_,ao.refl _⟩;(conv=>whnf);refine⟨?_,rfl⟩;repeat (first | exact ax.nil | refine ax.any ?_ | refine ax.cons ?_ | refine ax.eq (by rw[wrap_i64 (by omega)];rfl) ?_)
       (conv=>whnf);exact trivial)
 · have hie:i=l.length:=by
    simp only[au,decide_eq_false_iff_not] at hlt
    omega
   subst hie
   conv=>whnf
   repeat (refine aa.of ?_;conv=>whnf)
   rw[bH hall,Bool.true_and]
   repeat' (first
    | (refine And.intro ?_ ?_<;>conv=>whnf)
    | (refine an.same rfl ?_;conv=>whnf)
    | (refine an.row rfl ?_;conv=>whnf)
    | (refine an.call rfl ?_;conv=>whnf)
    | (refine aS.of ?_;conv=>whnf)
    | (refine aa.of ?_;conv=>whnf)
    | (refine ar.aj (ak.aE ae rfl rfl (ad:=⟨br,0,none⟩) (k:=_) (L:=eQ ⟨pat,now,sent,first,h,l,wh,wait,co,ci⟩) (v:=_) (aG.row (by simp[Value.cells])) (fun _=>rfl) rfl ?_);conv=>whnf)
    | (refine ar.aj (ak.aU ae rfl rfl (ad:=⟨br,0,none⟩) (k:=_) (L:=eQ ⟨pat,now,sent,first,h,l,wh,wait,co,ci⟩) (m:=_) (aG.row (by simp[Value.cells])) rfl rfl rfl ?_);conv=>whnf)
    | (refine aw.val hc (fun w hw=>⟨hw.2,trivial⟩) (fun v D hv=>?_);subst hv;conv=>whnf)
    | (refine aw.val h1 (fun w hw=>trivial) (fun v D hv=>?_);subst hv;conv=>whnf)
    | (refine aw.val h2 (fun w hw=>trivial) (fun v D hv=>?_);subst hv;conv=>whnf)
    | (cases q4<;>conv=>whnf)
    | (cases q5<;>conv=>whnf)
    | (cases q6<;>conv=>whnf)
    | (split<;>conv=>whnf)
    | (refine an.mk ?_ ?_;(focus (first | exact ao.refl _ | exact ao.left _ _ | exact ao.of_le ⟨List.sublist_append_left _ _,fun w h=>h⟩ | exact ao.of_le ⟨List.Sublist.refl _,fun w h=>h.1⟩));conv=>whnf))
   all_goals exact⟨_,ao.refl _,rfl⟩
structure pM where
 dev:Int
 tag:Int
 frame:Int
 w:Bool
 deriving Inhabited
def bc (x:pM):List Value:=[.int .i64 x.dev,.int .i64 x.tag,.int .i64 x.frame,.bool x.w]
theorem mg (x:pM):ah Tryz.prog 174 [.agg ⟨bc x⟩] (fun _=>True) (fun v F=>v = .bool (decide (1≤x.dev∧x.dev≤4∧0≤x.tag∧0≤x.frame∧x.frame<96))):=by
 refine ah.aK ae Tryz.func174 rfl (by decide) (n:=Tryz.f174.ntmps - 1) rfl rfl fun w0 av=>?_
 conv=>whnf
 repeat (refine aa.of ?_;conv=>whnf)
 intro b0
 conv=>whnf
 repeat (refine aa.of ?_;conv=>whnf)
 exact⟨_,ao.refl _,by congr 1;rw[Bool.eq_iff_iff];simp[aI,au,aJ,aH,aO,aN,and_assoc];try omega⟩
def fb (v w:pM):Bool:=bJ v.frame w.frame&&(v.w||w.w)
theorem ou (v w:pM):ah Tryz.prog 177 [.agg ⟨bc v⟩,.agg ⟨bc w⟩] (fun _=>True) (fun u F=>u = .bool (fb v w)):=by
 unfold fb
 refine ah.aK ae Tryz.func177 rfl (by decide) (n:=Tryz.f177.ntmps - 2) rfl rfl fun w0 av=>?_
 conv=>whnf
 repeat (refine aa.of ?_;conv=>whnf)
 intro b1
 conv=>whnf
 repeat (refine aa.of ?_;conv=>whnf)
 intro b2
 conv=>whnf
 repeat (refine aa.of ?_;conv=>whnf)
 repeat' (first
  | (refine And.intro ?_ ?_<;>conv=>whnf)
  | (refine an.same rfl ?_;conv=>whnf)
  | (refine an.row rfl ?_;conv=>whnf)
  | (refine an.call rfl ?_;conv=>whnf)
  | (refine aS.of ?_;conv=>whnf)
  | (refine aa.of ?_;conv=>whnf)
  | (split<;>conv=>whnf)
  | (refine an.mk ?_ ?_;(focus (first | exact ao.refl _ | exact ao.left _ _ | exact ao.of_le ⟨List.sublist_append_left _ _,fun w h=>h⟩ | exact ao.of_le ⟨List.Sublist.refl _,fun w h=>h.1⟩));conv=>whnf))
 all_goals refine⟨_,ao.refl _,?_⟩
 all_goals first | rfl | (congr 1;done) | (congr 1;rw[Bool.eq_iff_iff];simp_all [aI,au,aJ,aH,aO,aN,and_assoc];done) | (congr 1;rw[Bool.eq_iff_iff];simp_all [aI,au,aJ,aH,aO,aN,and_assoc];omega) | (congr 1;rw[Bool.eq_iff_iff];(try cases q1)<;>(try cases q2)<;>(try cases q3)<;>(try simp_all [aI,au,aJ,aH,aO,aN,and_assoc])<;>(try omega);done)
theorem sH (v w:pM) (b:Nat):ah Tryz.prog 176 [.agg ⟨bc v⟩,.pointer (some ⟨b,0,none⟩)] (fun ww=>af ww (some ⟨b,0,none⟩) (bc w)) (fun u F=>u = .bool (fb v w)):=by
 have h1:=ou v w
 generalize fb v w=q1 at *
 refine ah.aK ae Tryz.func176 rfl (by decide) (n:=Tryz.f176.ntmps - 2) rfl rfl fun w0 av=>?_
 conv=>whnf
 repeat (refine aa.of ?_;conv=>whnf)
 intro b1
 conv=>whnf
 repeat (refine aa.of ?_;conv=>whnf)
 refine ar.aj (ak.aU ae rfl rfl (ad:=⟨b,0,none⟩) (k:=0) (L:=bc w) (m:=bc w) (.fact fun w hw=>hw) rfl rfl rfl ?_)
 conv=>whnf
 repeat (refine aa.of ?_;conv=>whnf)
 refine aw.val h1 (fun w hw=>trivial) (fun v D hv=>?_)
 subst hv
 conv=>whnf
 repeat (refine aa.of ?_;conv=>whnf)
 exact⟨_,ao.refl _,rfl⟩
def iu (l:List pM) (j:Nat):Bool:=decide (1≤l[j]!.dev∧l[j]!.dev≤4∧0≤l[j]!.tag∧0≤l[j]!.frame∧l[j]!.frame<96)&&(decide (0<j→hU l[j - 1]!.dev l[j]!.dev l[j - 1]!.tag l[j]!.tag<0) && !((l.take j).any fun v=>fb v l[j]!))
theorem wU {α:Type} (cf:α→List Value) (hz : ∀ x,(cf x).length=4) (f:FuncId) (Pre:World→Prop) (p:α→Bool) (u0:Value) (l:List α) (h:Hd) (hh:h.Ok l.length) (hl:l.length≤140737488355328) (hf : ∀ e∈l,ah Tryz.prog f [.agg ⟨cf e⟩,u0] Pre (fun v F=>v = .bool (p e))) :
 ah Tryz.prog 200 [h.v l.length,.func (.func f) #[] #[u0]] (fun w=>af w h.a (l.flatMap cf)∧Pre w) (fun v F=>v = .int .i64 (ef (l.findIdx? p))):=by
 refine ah.aK ae Tryz.func200 rfl (by decide) (n:=Tryz.f200.ntmps - 2) rfl rfl fun w0 av=>?_
 conv=>whnf
 refine az.loop ae (ι:=Nat) ([5]++List.range' 8 11) (fun x=>x≤l.length∧∀ j (hj:j<l.length),j<x→p l[j]=false)
  (fun x=>[(8,.v (.int .i64 (x:Int)))]) (fun _=>[]) (fun _=>⟨fun w=>af w h.a (l.flatMap cf)∧Pre w,[]⟩)
  (fun x=>l.length - x) 0 ⟨Nat.zero_le _,fun j hj h=>by omega⟩ ?_ rfl (ao.refl _) fun i hi=>?_
 · conv=>whnf
   repeat (first | exact ax.nil | refine ax.any ?_ | refine ax.cons ?_)
 obtain⟨hi,hall⟩:=hi
 conv=>whnf
 refine bT.split (fun hlt=>?_) (fun hlt=>?_)
 · have hlt':i<l.length:=by
    simp only[au,decide_eq_true_eq] at hlt
    omega
   conv=>whnf
   repeat (refine aa.of ?_;conv=>whnf)
   refine ar.aj (ak.index ae (t:=95) rfl rfl rfl (by omega) (by omega) hh.nil fun ad had=>?_)
   conv=>whnf
   repeat (refine aa.of ?_;conv=>whnf)
   refine ar.aj (ak.aU ae (t:=168) rfl rfl (ad:=ad) (k:=i*4) (L:=l.flatMap cf) (m:=cf l[i]) (.fact fun w hw=>had ▸ hw.1) (by simp) (bj hz hlt') (hz _) ?_)
   conv=>whnf
   repeat (refine aa.of ?_;conv=>whnf)
   refine aw.val (hf _ (List.getElem_mem hlt')) (fun w hw=>hw.2) (fun v D hv=>?_)
   generalize hq:p l[i]=q at hv
   subst hv
   cases q
   · conv=>whnf
     repeat (refine aa.of ?_;conv=>whnf)
     refine⟨i+1,⟨⟨hlt',fun j hj h=>?_⟩,by dsimp only;omega⟩,?_,?_,ao.refl _⟩
     · rcases Nat.lt_or_eq_of_le (Nat.lt_succ_iff.1 h) with h5 | h5
       · exact hall j hj h5
       · subst h5
         exact hq
     · conv=>whnf
       refine⟨?_,rfl⟩
       repeat (first | exact ax.nil | refine ax.any ?_ | refine ax.cons ?_ | refine ax.eq (by rw[wrap_i64 (by omega)];rfl) ?_)
     · conv=>whnf
       exact trivial
   · conv=>whnf
     repeat (refine aa.of ?_;conv=>whnf)
     refine⟨_,ao.refl _,?_⟩
     have:l.findIdx? p=some i:=by
      rw[List.findIdx?_eq_some_iff_getElem]
      exact⟨hlt',hq,fun j hj=>by simpa using hall j (by omega) hj⟩
     rw[this]
     rfl
 · have hie:i=l.length:=by
    simp only[au,decide_eq_false_iff_not] at hlt
    omega
   subst hie
   conv=>whnf
   repeat (refine aa.of ?_;conv=>whnf)
   refine⟨_,ao.refl _,?_⟩
   have:l.findIdx? p=none:=by
    rw[List.findIdx?_eq_none_iff]
    intro x hx
    obtain⟨j,hj,rfl⟩:=List.getElem_of_mem hx
    simpa using hall j hj hj
   rw[this]
   rfl
theorem oP {α:Type} (cf:α→List Value) (hz : ∀ x,(cf x).length=4) (f:FuncId) (Pre:World→Prop) (p:α→Bool) (u0:Value) (l:List α) (h:Hd) (hh:h.Ok l.length) (hl:l.length≤140737488355328) (hf : ∀ e∈l,ah Tryz.prog f [.agg ⟨cf e⟩,u0] Pre (fun v F=>v = .bool (p e))) :
 ah Tryz.prog 124 [h.v l.length,.func (.func f) #[] #[u0]] (fun w=>af w h.a (l.flatMap cf)∧Pre w) (fun v F=>v = .bool (l.any p)):=by
 have hi:=wU cf hz f Pre p u0 l h hh hl hf
 have hv:=da l p
 generalize ef (l.findIdx? p)=j at *
 refine ah.aK ae Tryz.func124 rfl (by decide) (n:=Tryz.f124.ntmps - 2) rfl rfl fun w0 av=>?_
 conv=>whnf
 repeat (refine aa.of ?_;conv=>whnf)
 refine aw.val hi (fun w hw=>hw) (fun v D hv=>?_)
 subst hv
 conv=>whnf
 repeat (refine aa.of ?_;conv=>whnf)
 exact⟨_,ao.refl _,by rw[← hv,aI]⟩
theorem kW (l:List pM) (h:Hd) (hh:h.Ok l.length) (hl:l.length≤140737488355328) :
 ah Tryz.prog 104 [h.v l.length] (fun w=>af w h.a (l.flatMap bc)) (fun v F=>v = .bool (allI l.length (iu l))):=by
 refine ah.aK ae Tryz.func104 rfl (by decide) (n:=Tryz.f104.ntmps - 1) rfl rfl fun w0 av=>?_
 conv=>whnf
 repeat (refine aa.of ?_;conv=>whnf)
 refine az.loop ae (ι:=Nat) ([3,4]++List.range' 7 30) (fun x=>x≤l.length∧∀ j,j<x→iu l j=true)
  (fun x=>[(7,.v (.int .i64 (x:Int)))]) (fun _=>[]) (fun _=>⟨fun w=>af w h.a (l.flatMap bc),[]⟩)
  (fun x=>l.length - x) 0 ⟨Nat.zero_le _,fun j h=>by omega⟩ ?_ rfl (ao.of_le ⟨by simp[Value.cells],fun w hw=>hw⟩) fun i hi=>?_
 · conv=>whnf
   repeat (first | exact ax.nil | refine ax.any ?_ | refine ax.cons ?_)
 obtain⟨hi,hall⟩:=hi
 conv=>whnf
 repeat (refine aa.of ?_;conv=>whnf)
 refine bT.split (fun hlt=>?_) (fun hlt=>?_)
 · have hlt':i<l.length:=by
    simp only[au,decide_eq_true_eq] at hlt
    omega
   have hok:iu l i=(decide (1≤l[i].dev∧l[i].dev≤4∧0≤l[i].tag∧0≤l[i].frame∧l[i].frame<96)&&(decide (0<i→hU l[i - 1]!.dev l[i].dev l[i - 1]!.tag l[i].tag<0) && !((l.take i).any fun v=>fb v l[i]))):=by
    unfold iu
    rw[cm hlt']
   have hnext:iu l i=true→∀ j,j<i+1→iu l j=true:=fun hs j hj=>by
    rcases Nat.lt_or_eq_of_le (Nat.lt_succ_iff.1 hj) with h5 | h5
    · exact hall j h5
    · exact h5 ▸ hs
   have hq1:=mg l[i]
   obtain⟨q1,heq1⟩ : ∃ q,q=decide (1≤l[i].dev∧l[i].dev≤4∧0≤l[i].tag∧0≤l[i].frame∧l[i].frame<96):=⟨_,rfl⟩
   rw[← heq1] at hq1
   have hq2:=fun(b:Nat)=>oP bc (fun _=>rfl) 176 (fun w=>af w (some ⟨b,0,none⟩) (bc l[i])) (fun v=>fb v l[i]) (.pointer (some ⟨b,0,none⟩)) (l.take i) h (by rw[List.length_take,Nat.min_eq_left hi];exact hh.less hi) (by rw[List.length_take];omega) (fun e _=>sH e l[i] b)
   obtain⟨q2,heq2⟩ : ∃ q,q=((l.take i).any fun v=>fb v l[i]):=⟨_,rfl⟩
   rw[← heq2] at hq2
   conv=>whnf
   repeat (refine aa.of ?_;conv=>whnf)
   refine ar.aj (ak.index ae (t:=95) rfl rfl rfl (by first | omega | (dsimp only;omega)) (by first | omega | (dsimp only;omega)) hh.nil fun ad had=>?_)
   conv=>whnf
   repeat (refine aa.of ?_;conv=>whnf)
   refine ar.aj (ak.aU ae (t:=168) rfl rfl (ad:=ad) (k:=i*4) (L:=l.flatMap bc) (m:=bc l[i]) (.fact fun w hw=>had ▸ hw) (by simp) (bj (cf:=bc) (z:=4) (fun _=>rfl) hlt') rfl ?_)
   conv=>whnf
   repeat (refine aa.of ?_;conv=>whnf)
   intro b1
   conv=>whnf
   repeat (refine aa.of ?_;conv=>whnf)
   refine az.draw ae mixed rfl rfl ?_
   conv=>whnf
   rcases Nat.eq_zero_or_pos i with h0 | h0
   · have hg:mr (i:Int) 0=false:=by simp[aH];omega
     repeat' (first
      | (refine And.intro ?_ ?_<;>conv=>whnf)
      | (refine an.same rfl ?_;conv=>whnf)
      | (refine an.row rfl ?_;conv=>whnf)
      | (refine an.call rfl ?_;conv=>whnf)
      | (refine aS.of ?_;conv=>whnf)
      | (refine aa.of ?_;conv=>whnf)
      | (rw[hg];conv=>whnf)
      | (refine aw.val hq1 (fun w hw=>trivial) (fun v D hv=>?_);subst hv;conv=>whnf)
      | (refine ak.pP ae (t:=95) rfl rfl rfl i rfl (by have:=hh.cap;omega) ?_;conv=>whnf)
      | (refine aw.look (by have:=hq2 b1;rw[List.length_take,Nat.min_eq_left hi] at this;exact this) ((Loc.row _ _).and (Loc.row _ _)) (fun w hst=>⟨by have h2:=af.take hst.now (i*4);rw[je (cf:=bc) (z:=4) (fun _=>rfl)] at h2;exact h2,aG.box 0 rfl (by simp) rfl w hst⟩) ?_;conv=>whnf)
      | (split<;>conv=>whnf)
      | (refine an.mk ?_ ?_;(focus (first | exact ao.refl _ | exact ao.left _ _ | exact ao.of_le ⟨List.sublist_append_left _ _,fun w h=>h⟩ | exact ao.of_le ⟨List.Sublist.refl _,fun w h=>h.1⟩));conv=>whnf))
     all_goals first
      | (refine⟨_,ao.refl _,?_⟩;rw[aZ hlt' (by rw[hok];((try subst heq1);(try subst heq2);(try subst heq3);simp only[cond_true,cond_false,au,aJ,aH,aI,aO,aN,decide_eq_true_eq,decide_eq_false_iff_not,beq_iff_eq,bne_iff_ne,ne_eq,beq_eq_false_iff_ne,bne_eq_false_iff_eq,Bool.not_eq_true,Bool.not_eq_false,Bool.and_true,Bool.true_and,Bool.and_false,Bool.false_and,Bool.or_true,Bool.or_false,Bool.true_or,Bool.false_or,Bool.not_eq_true',Bool.not_eq_false',Bool.not_true,Bool.not_false] at *;first | omega | (simp_all;done) | (simp_all;omega)))];first | done | rfl)
      | (
       refine⟨i+1,⟨⟨hlt',hnext (by rw[hok];((try subst heq1);(try subst heq2);(try subst heq3);simp only[cond_true,cond_false,au,aJ,aH,aI,aO,aN,decide_eq_true_eq,decide_eq_false_iff_not,beq_iff_eq,bne_iff_ne,ne_eq,beq_eq_false_iff_ne,bne_eq_false_iff_eq,Bool.not_eq_true,Bool.not_eq_false,Bool.and_true,Bool.true_and,Bool.and_false,Bool.false_and,Bool.or_true,Bool.or_false,Bool.true_or,Bool.false_or,Bool.not_eq_true',Bool.not_eq_false',Bool.not_true,Bool.not_false] at *;first | omega | (simp_all;done) | (simp_all;omega)))⟩,by dsimp only;omega⟩,?_,?_,ao.refl _⟩;(conv=>whnf);refine⟨?_,rfl⟩;repeat (first | exact ax.nil | refine ax.any ?_ | refine ax.cons ?_ | refine ax.eq (by rw[wrap_i64 (by omega)];rfl) ?_)
       (conv=>whnf);exact trivial)
   · have hg:mr (i:Int) 0=true:=by simp[aH];omega
     have hj:i - 1<l.length:=by omega
     have hw1:IntKind.i64.wrap ((i:Int) - 1)=((i - 1:Nat):Int):=by
      rw[wrap_i64 (by omega)]
      omega
     try rw[cm hj] at hok
     repeat' (first
      | (refine And.intro ?_ ?_<;>conv=>whnf)
      | (refine an.same rfl ?_;conv=>whnf)
      | (refine an.row rfl ?_;conv=>whnf)
      | (refine an.call rfl ?_;conv=>whnf)
      | (refine aS.of ?_;conv=>whnf)
      | (refine aa.of ?_;conv=>whnf)
      | (rw[hg];conv=>whnf)
      | (refine aw.val hq1 (fun w hw=>trivial) (fun v D hv=>?_);subst hv;conv=>whnf)
      | (refine ak.pP ae (t:=95) rfl rfl rfl i rfl (by have:=hh.cap;omega) ?_;conv=>whnf)
      | (refine aw.look (by have:=hq2 b1;rw[List.length_take,Nat.min_eq_left hi] at this;exact this) ((Loc.row _ _).and (Loc.row _ _)) (fun w hst=>⟨by have h2:=af.take hst.now (i*4);rw[je (cf:=bc) (z:=4) (fun _=>rfl)] at h2;exact h2,aG.box 0 rfl (by simp) rfl w hst⟩) ?_;conv=>whnf)
      | (refine ak.index ae (t:=95) rfl rfl rfl (by first | omega | (dsimp only;omega)) (by first | omega | (dsimp only;omega)) hh.nil fun ad2 had2=>?_;conv=>whnf)
      | (refine ak.aU ae (t:=168) rfl rfl (ad:=ad2) (k:=(i - 1)*4) (L:=l.flatMap bc) (m:=bc l[i - 1]) (.fact fun w hw=>had2 ▸ hw) (by rw[hw1];simp) (bj (cf:=bc) (z:=4) (fun _=>rfl) hj) rfl ?_;conv=>whnf)
      | (refine aw.val (nh l[i - 1].dev l[i - 1].tag l[i - 1].frame l[i].dev l[i].tag l[i].frame l[i - 1].w l[i].w) (fun w hw=>trivial) (fun v D hv=>?_);subst hv;conv=>whnf)
      | (split<;>conv=>whnf)
      | (refine an.mk ?_ ?_;(focus (first | exact ao.refl _ | exact ao.left _ _ | exact ao.of_le ⟨List.sublist_append_left _ _,fun w h=>h⟩ | exact ao.of_le ⟨List.Sublist.refl _,fun w h=>h.1⟩));conv=>whnf))
     all_goals first
      | (refine⟨_,ao.refl _,?_⟩;rw[aZ hlt' (by rw[hok];((try subst heq1);(try subst heq2);(try subst heq3);simp only[cond_true,cond_false,au,aJ,aH,aI,aO,aN,decide_eq_true_eq,decide_eq_false_iff_not,beq_iff_eq,bne_iff_ne,ne_eq,beq_eq_false_iff_ne,bne_eq_false_iff_eq,Bool.not_eq_true,Bool.not_eq_false,Bool.and_true,Bool.true_and,Bool.and_false,Bool.false_and,Bool.or_true,Bool.or_false,Bool.true_or,Bool.false_or,Bool.not_eq_true',Bool.not_eq_false',Bool.not_true,Bool.not_false] at *;first | omega | (simp_all;done) | (simp_all;omega)))];first | done | rfl)
      | (
       refine⟨i+1,⟨⟨hlt',hnext (by rw[hok];((try subst heq1);(try subst heq2);(try subst heq3);simp only[cond_true,cond_false,au,aJ,aH,aI,aO,aN,decide_eq_true_eq,decide_eq_false_iff_not,beq_iff_eq,bne_iff_ne,ne_eq,beq_eq_false_iff_ne,bne_eq_false_iff_eq,Bool.not_eq_true,Bool.not_eq_false,Bool.and_true,Bool.true_and,Bool.and_false,Bool.false_and,Bool.or_true,Bool.or_false,Bool.true_or,Bool.false_or,Bool.not_eq_true',Bool.not_eq_false',Bool.not_true,Bool.not_false] at *;first | omega | (simp_all;done) | (simp_all;omega)))⟩,by dsimp only;omega⟩,?_,?_,ao.refl _⟩;(conv=>whnf);refine⟨?_,rfl⟩;repeat (first | exact ax.nil | refine ax.any ?_ | refine ax.cons ?_ | refine ax.eq (by rw[wrap_i64 (by omega)];rfl) ?_)
       (conv=>whnf);exact trivial)
 · have hie:i=l.length:=by
    simp only[au,decide_eq_false_iff_not] at hlt
    omega
   subst hie
   conv=>whnf
   repeat (refine aa.of ?_;conv=>whnf)
   exact⟨_,ao.refl _,by rw[bH hall]⟩
def qm (l:List Int) (j:Nat):Bool:=decide (1≤l[j]!∧l[j]! < 32) && !((l.take j).any fun y=>l[j]! == y)
theorem lr (l:List Int) (h:Hd) (hh:h.Ok l.length) (hl:l.length≤140737488355328) :
 ah Tryz.prog 114 [h.v l.length] (fun w=>af w h.a (l.map bL)) (fun v F=>v = .bool (allI l.length (qm l))):=by
 refine ah.aK ae Tryz.func114 rfl (by decide) (n:=Tryz.f114.ntmps - 1) rfl rfl fun w0 av=>?_
 conv=>whnf
 repeat (refine aa.of ?_;conv=>whnf)
 refine az.loop ae (ι:=Nat) ([3,4]++List.range' 7 20) (fun x=>x≤l.length∧∀ j,j<x→qm l j=true)
  (fun x=>[(7,.v (.int .i64 (x:Int)))]) (fun _=>[]) (fun _=>⟨fun w=>af w h.a (l.map bL),[]⟩)
  (fun x=>l.length - x) 0 ⟨Nat.zero_le _,fun j h=>by omega⟩ ?_ rfl (ao.refl _) fun i hi=>?_
 · conv=>whnf
   repeat (first | exact ax.nil | refine ax.any ?_ | refine ax.cons ?_)
 obtain⟨hi,hall⟩:=hi
 conv=>whnf
 repeat (refine aa.of ?_;conv=>whnf)
 refine bT.split (fun hlt=>?_) (fun hlt=>?_)
 · have hlt':i<l.length:=by
    simp only[au,decide_eq_true_eq] at hlt
    omega
   have hok:qm l i=(decide (1≤l[i]∧l[i]<32) && !((l.take i).any fun y=>l[i] == y)):=by
    unfold qm
    rw[cm hlt']
   have hnext:qm l i=true→∀ j,j<i+1→qm l j=true:=fun hs j hj=>by
    rcases Nat.lt_or_eq_of_le (Nat.lt_succ_iff.1 hj) with h5 | h5
    · exact hall j h5
    · exact h5 ▸ hs
   have hq2:=nD l[i] (l.take i) h (by rw[List.length_take,Nat.min_eq_left hi];exact hh.less hi) (by rw[List.length_take];omega)
   rw[List.length_take,Nat.min_eq_left hi] at hq2
   obtain⟨q2,heq2⟩ : ∃ q,q=(l.take i).any fun y=>l[i] == y:=⟨_,rfl⟩
   rw[← heq2] at hq2
   conv=>whnf
   repeat (refine aa.of ?_;conv=>whnf)
   refine ar.aj (ak.index ae (t:=89) rfl rfl rfl (by omega) (by omega) hh.nil fun ad had=>?_)
   conv=>whnf
   repeat (refine aa.of ?_;conv=>whnf)
   refine ar.aj (ak.aE ae (t:=3) rfl rfl (ad:=ad) (k:=i) (L:=l.map bL) (v:=bL l[i]) (.fact fun w hw=>had ▸ hw) (fun hs=>by rw[Nat.mul_one];rfl) (by rw[List.getElem?_map,List.getElem?_eq_getElem hlt'];rfl) ?_)
   conv=>whnf
   repeat (refine aa.of ?_;conv=>whnf)
   repeat' (first
    | (refine And.intro ?_ ?_<;>conv=>whnf)
    | (refine an.same rfl ?_;conv=>whnf)
    | (refine an.row rfl ?_;conv=>whnf)
    | (refine an.call rfl ?_;conv=>whnf)
    | (refine aS.of ?_;conv=>whnf)
    | (refine aa.of ?_;conv=>whnf)
    | (refine ar.aj (ak.pP ae (t:=89) rfl rfl rfl i rfl (by have:=hh.cap;omega) ?_);conv=>whnf)
    | (refine aw.val hq2 (fun w hw=>by have h2:=af.take hw i;rw[← List.map_take] at h2;exact h2) (fun v D hv=>?_);subst hv;conv=>whnf)
    | (split<;>conv=>whnf)
    | (refine an.mk ?_ ?_;(focus (first | exact ao.refl _ | exact ao.left _ _ | exact ao.of_le ⟨List.sublist_append_left _ _,fun w h=>h⟩ | exact ao.of_le ⟨List.Sublist.refl _,fun w h=>h.1⟩));conv=>whnf))
   all_goals first
    | (refine⟨_,ao.refl _,?_⟩;rw[aZ hlt' (by rw[hok];((try subst heq1);(try subst heq2);(try subst heq3);simp only[cond_true,cond_false,au,aJ,aH,aI,aO,aN,decide_eq_true_eq,decide_eq_false_iff_not,beq_iff_eq,bne_iff_ne,ne_eq,beq_eq_false_iff_ne,bne_eq_false_iff_eq,Bool.not_eq_true,Bool.not_eq_false,Bool.and_true,Bool.true_and,Bool.and_false,Bool.false_and,Bool.or_true,Bool.or_false,Bool.true_or,Bool.false_or,Bool.not_eq_true',Bool.not_eq_false',Bool.not_true,Bool.not_false] at *;first | omega | (simp_all;done) | (simp_all;omega)))];first | done | rfl)
    | (
     refine⟨i+1,⟨⟨hlt',hnext (by rw[hok];((try subst heq1);(try subst heq2);(try subst heq3);simp only[cond_true,cond_false,au,aJ,aH,aI,aO,aN,decide_eq_true_eq,decide_eq_false_iff_not,beq_iff_eq,bne_iff_ne,ne_eq,beq_eq_false_iff_ne,bne_eq_false_iff_eq,Bool.not_eq_true,Bool.not_eq_false,Bool.and_true,Bool.true_and,Bool.and_false,Bool.false_and,Bool.or_true,Bool.or_false,Bool.true_or,Bool.false_or,Bool.not_eq_true',Bool.not_eq_false',Bool.not_true,Bool.not_false] at *;first | omega | (simp_all;done) | (simp_all;omega)))⟩,by dsimp only;omega⟩,?_,?_,ao.refl _⟩;(conv=>whnf);refine⟨?_,rfl⟩;repeat (first | exact ax.nil | refine ax.any ?_ | refine ax.cons ?_ | refine ax.eq (by rw[wrap_i64 (by omega)];rfl) ?_)
     (conv=>whnf);exact trivial)
 · have hie:i=l.length:=by
    simp only[au,decide_eq_false_iff_not] at hlt
    omega
   subst hie
   conv=>whnf
   repeat (refine aa.of ?_;conv=>whnf)
   exact⟨_,ao.refl _,by rw[bH hall]⟩
structure qc where
 dev:Int
 tag:Int
 ans:Int
 data:Bs
instance:Inhabited qc:=⟨⟨0,0,0,default⟩⟩
def cM (x:qc):List Value:=[.int .i64 x.dev,.int .i64 x.tag,.int .i64 x.ans,de x.data]
theorem qi (a:Int):ah Tryz.prog 231 [.int .i64 a] (fun _=>True) (fun v F=>v = .bool (decide (1≤a∧a≤4))):=by
 refine ah.aK ae Tryz.func231 rfl (by decide) (n:=Tryz.f231.ntmps - 1) rfl rfl fun w0 av=>?_
 conv=>whnf
 repeat (refine aa.of ?_;conv=>whnf)
 exact⟨_,ao.refl _,by congr 1;rw[Bool.eq_iff_iff];simp[aI,au,aJ,aH,aO,aN,and_assoc];try omega⟩
def u6 (x:qc):Bool:=decide (1≤x.dev∧x.dev≤4)&&decide (0≤x.tag∧x.data.n≤128)
theorem mu (x:qc):ah Tryz.prog 185 [.agg ⟨cM x⟩] (fun _=>True) (fun v F=>v = .bool (u6 x)):=by
 have h1:=qi x.dev
 unfold u6
 generalize decide (1≤x.dev∧x.dev≤4)=q1 at *
 refine ah.aK ae Tryz.func185 rfl (by decide) (n:=Tryz.f185.ntmps - 1) rfl rfl fun w0 av=>?_
 conv=>whnf
 repeat (refine aa.of ?_;conv=>whnf)
 intro b1
 conv=>whnf
 repeat (refine aa.of ?_;conv=>whnf)
 repeat' (first
  | (refine And.intro ?_ ?_<;>conv=>whnf)
  | (refine an.same rfl ?_;conv=>whnf)
  | (refine an.row rfl ?_;conv=>whnf)
  | (refine an.call rfl ?_;conv=>whnf)
  | (refine aS.of ?_;conv=>whnf)
  | (refine aa.of ?_;conv=>whnf)
  | (refine aw.val h1 (fun w hw=>trivial) (fun v D hv=>?_);subst hv;conv=>whnf)
  | (cases q1<;>conv=>whnf)
  | (split<;>conv=>whnf)
  | (refine an.mk ?_ ?_;(focus (first | exact ao.refl _ | exact ao.left _ _ | exact ao.of_le ⟨List.sublist_append_left _ _,fun w h=>h⟩ | exact ao.of_le ⟨List.Sublist.refl _,fun w h=>h.1⟩));conv=>whnf))
 all_goals refine⟨_,ao.refl _,?_⟩
 all_goals first | rfl | (congr 1;done) | (congr 1;rw[Bool.eq_iff_iff];simp_all [aI,au,aJ,aH,aO,aN,and_assoc];done) | (congr 1;rw[Bool.eq_iff_iff];simp_all [aI,au,aJ,aH,aO,aN,and_assoc];omega) | (congr 1;rw[Bool.eq_iff_iff];(try cases q1)<;>(try cases q2)<;>(try cases q3)<;>(try simp_all [aI,au,aJ,aH,aO,aN,and_assoc])<;>(try omega);done)
def fa (x y:qc):Bool:=bJ x.dev y.dev&&bJ x.tag y.tag
theorem rT (x y:qc) (b:Nat):ah Tryz.prog 233 [.agg ⟨cM x⟩,.pointer (some ⟨b,0,none⟩)] (fun w=>af w (some ⟨b,0,none⟩) (cM y)) (fun v F=>v = .bool (fa x y)):=by
 unfold fa
 refine ah.aK ae Tryz.func233 rfl (by decide) (n:=Tryz.f233.ntmps - 2) rfl rfl fun w0 av=>?_
 conv=>whnf
 repeat (refine aa.of ?_;conv=>whnf)
 intro b1
 conv=>whnf
 repeat (refine aa.of ?_;conv=>whnf)
 repeat' (first
  | (refine And.intro ?_ ?_<;>conv=>whnf)
  | (refine an.same rfl ?_;conv=>whnf)
  | (refine an.row rfl ?_;conv=>whnf)
  | (refine an.call rfl ?_;conv=>whnf)
  | (refine aS.of ?_;conv=>whnf)
  | (refine aa.of ?_;conv=>whnf)
  | (refine ar.aj (ak.aE ae rfl rfl (ad:=⟨b,0,none⟩) (k:=_) (L:=cM y) (v:=_) (.fact fun w hw=>hw) (fun _=>rfl) rfl ?_);conv=>whnf)
  | (split<;>conv=>whnf)
  | (refine an.mk ?_ ?_;(focus (first | exact ao.refl _ | exact ao.left _ _ | exact ao.of_le ⟨List.sublist_append_left _ _,fun w h=>h⟩ | exact ao.of_le ⟨List.Sublist.refl _,fun w h=>h.1⟩));conv=>whnf))
 all_goals refine⟨_,ao.refl _,?_⟩
 all_goals first | rfl | (congr 1;done) | (congr 1;rw[Bool.eq_iff_iff];simp_all [aI,au,aJ,aH,aO,aN,and_assoc];done) | (congr 1;rw[Bool.eq_iff_iff];simp_all [aI,au,aJ,aH,aO,aN,and_assoc];omega) | (congr 1;rw[Bool.eq_iff_iff];(try cases q1)<;>(try cases q2)<;>(try cases q3)<;>(try simp_all [aI,au,aJ,aH,aO,aN,and_assoc])<;>(try omega);done)
theorem xB {α:Type} (cf:α→List Value) (hz : ∀ x,(cf x).length=4) (f:FuncId) (Pre:World→Prop) (p:α→Bool) (u0:Value) (l:List α) (h:Hd) (hh:h.Ok l.length) (hl:l.length≤140737488355328) (hf : ∀ e∈l,ah Tryz.prog f [.agg ⟨cf e⟩,u0] Pre (fun v F=>v = .bool (p e))) :
 ah Tryz.prog 245 [h.v l.length,.func (.func f) #[] #[u0]] (fun w=>af w h.a (l.flatMap cf)∧Pre w) (fun v F=>v = .int .i64 (ef (l.findIdx? p))):=by
 refine ah.aK ae Tryz.func245 rfl (by decide) (n:=Tryz.f245.ntmps - 2) rfl rfl fun w0 av=>?_
 conv=>whnf
 refine az.loop ae (ι:=Nat) ([5]++List.range' 8 11) (fun x=>x≤l.length∧∀ j (hj:j<l.length),j<x→p l[j]=false)
  (fun x=>[(8,.v (.int .i64 (x:Int)))]) (fun _=>[]) (fun _=>⟨fun w=>af w h.a (l.flatMap cf)∧Pre w,[]⟩)
  (fun x=>l.length - x) 0 ⟨Nat.zero_le _,fun j hj h=>by omega⟩ ?_ rfl (ao.refl _) fun i hi=>?_
 · conv=>whnf
   repeat (first | exact ax.nil | refine ax.any ?_ | refine ax.cons ?_)
 obtain⟨hi,hall⟩:=hi
 conv=>whnf
 refine bT.split (fun hlt=>?_) (fun hlt=>?_)
 · have hlt':i<l.length:=by
    simp only[au,decide_eq_true_eq] at hlt
    omega
   conv=>whnf
   repeat (refine aa.of ?_;conv=>whnf)
   refine ar.aj (ak.index ae (t:=119) rfl rfl rfl (by omega) (by omega) hh.nil fun ad had=>?_)
   conv=>whnf
   repeat (refine aa.of ?_;conv=>whnf)
   refine ar.aj (ak.aU ae (t:=179) rfl rfl (ad:=ad) (k:=i*4) (L:=l.flatMap cf) (m:=cf l[i]) (.fact fun w hw=>had ▸ hw.1) (by simp) (bj hz hlt') (hz _) ?_)
   conv=>whnf
   repeat (refine aa.of ?_;conv=>whnf)
   refine aw.val (hf _ (List.getElem_mem hlt')) (fun w hw=>hw.2) (fun v D hv=>?_)
   generalize hq:p l[i]=q at hv
   subst hv
   cases q
   · conv=>whnf
     repeat (refine aa.of ?_;conv=>whnf)
     refine⟨i+1,⟨⟨hlt',fun j hj h=>?_⟩,by dsimp only;omega⟩,?_,?_,ao.refl _⟩
     · rcases Nat.lt_or_eq_of_le (Nat.lt_succ_iff.1 h) with h5 | h5
       · exact hall j hj h5
       · subst h5
         exact hq
     · conv=>whnf
       refine⟨?_,rfl⟩
       repeat (first | exact ax.nil | refine ax.any ?_ | refine ax.cons ?_ | refine ax.eq (by rw[wrap_i64 (by omega)];rfl) ?_)
     · conv=>whnf
       exact trivial
   · conv=>whnf
     repeat (refine aa.of ?_;conv=>whnf)
     refine⟨_,ao.refl _,?_⟩
     have:l.findIdx? p=some i:=by
      rw[List.findIdx?_eq_some_iff_getElem]
      exact⟨hlt',hq,fun j hj=>by simpa using hall j (by omega) hj⟩
     rw[this]
     rfl
 · have hie:i=l.length:=by
    simp only[au,decide_eq_false_iff_not] at hlt
    omega
   subst hie
   conv=>whnf
   repeat (refine aa.of ?_;conv=>whnf)
   refine⟨_,ao.refl _,?_⟩
   have:l.findIdx? p=none:=by
    rw[List.findIdx?_eq_none_iff]
    intro x hx
    obtain⟨j,hj,rfl⟩:=List.getElem_of_mem hx
    simpa using hall j hj hj
   rw[this]
   rfl
theorem xr {α:Type} (cf:α→List Value) (hz : ∀ x,(cf x).length=4) (f:FuncId) (Pre:World→Prop) (p:α→Bool) (u0:Value) (l:List α) (h:Hd) (hh:h.Ok l.length) (hl:l.length≤140737488355328) (hf : ∀ e∈l,ah Tryz.prog f [.agg ⟨cf e⟩,u0] Pre (fun v F=>v = .bool (p e))) :
 ah Tryz.prog 232 [h.v l.length,.func (.func f) #[] #[u0]] (fun w=>af w h.a (l.flatMap cf)∧Pre w) (fun v F=>v = .bool (l.any p)):=by
 have hi:=xB cf hz f Pre p u0 l h hh hl hf
 have hv:=da l p
 generalize ef (l.findIdx? p)=j at *
 refine ah.aK ae Tryz.func232 rfl (by decide) (n:=Tryz.f232.ntmps - 2) rfl rfl fun w0 av=>?_
 conv=>whnf
 repeat (refine aa.of ?_;conv=>whnf)
 refine aw.val hi (fun w hw=>hw) (fun v D hv=>?_)
 subst hv
 conv=>whnf
 repeat (refine aa.of ?_;conv=>whnf)
 exact⟨_,ao.refl _,by rw[← hv,aI]⟩
theorem kZ (l:List qc) (h:Hd) (hh:h.Ok l.length) (hl:l.length≤140737488355328) (x:qc) :
 ah Tryz.prog 186 [h.v l.length,.agg ⟨cM x⟩] (fun w=>af w h.a (l.flatMap cM)) (fun v F=>v = .bool (l.any fun y=>fa y x)):=by
 have hg:=fun(b:Nat)=>xr cM (fun _=>rfl) 233 (fun w=>af w (some ⟨b,0,none⟩) (cM x)) (fun y=>fa y x) (.pointer (some ⟨b,0,none⟩)) l h hh hl (fun e _=>rT e x b)
 generalize (l.any fun y=>fa y x)=q1 at *
 refine ah.aK ae Tryz.func186 rfl (by decide) (n:=Tryz.f186.ntmps - 2) rfl rfl fun w0 av=>?_
 conv=>whnf
 repeat (refine aa.of ?_;conv=>whnf)
 intro b1
 conv=>whnf
 repeat (refine aa.of ?_;conv=>whnf)
 refine aw.look (hg b1) ((Loc.row _ _).and (Loc.row _ _)) (fun w hst=>⟨hst.now,aG.box 0 rfl (by simp) rfl w hst⟩) ?_
 conv=>whnf
 repeat (refine aa.of ?_;conv=>whnf)
 exact⟨_,ao.refl _,rfl⟩
def kN (l:List qc) (j:Nat):Bool:=u6 l[j]! && !((l.take j).any fun y=>fa y l[j]!)
theorem nk (m0 m1 m2 m3 m4:Bool) (l:List qc) (h:Hd) (hh:h.Ok l.length) (hl:l.length≤140737488355328) :
 ah Tryz.prog 109 [.agg ⟨[.bool m0,.bool m1,.bool m2,.bool m3,.bool m4,h.v l.length]⟩] (fun w=>af w h.a (l.flatMap cM)) (fun v F=>v = .bool (allI l.length (kN l)&&(decide (l.length≤32) && !m0))):=by
 refine ah.aK ae Tryz.func109 rfl (by decide) (n:=Tryz.f109.ntmps - 1) rfl rfl fun w0 av=>?_
 conv=>whnf
 repeat (refine aa.of ?_;conv=>whnf)
 intro b0_0
 conv=>whnf
 repeat (refine aa.of ?_;conv=>whnf)
 refine az.loop ae (ι:=Nat) ([3,4]++List.range' 8 17) (fun x=>x≤l.length∧∀ j,j<x→kN l j=true)
  (fun x=>[(8,.v (.int .i64 (x:Int)))]) (fun _=>[[.bool m0,.bool m1,.bool m2,.bool m3,.bool m4,h.v l.length]]) (fun _=>⟨fun w=>af w h.a (l.flatMap cM),[]⟩)
  (fun x=>l.length - x) 0 ⟨Nat.zero_le _,fun j h=>by omega⟩ ?_ rfl (ao.of_le ⟨by simp[Value.cells],fun w hw=>hw⟩) fun i hi=>?_
 · conv=>whnf
   repeat (first | exact ax.nil | refine ax.any ?_ | refine ax.cons ?_)
 obtain⟨hi,hall⟩:=hi
 conv=>whnf
 repeat (refine aa.of ?_;conv=>whnf)
 refine bT.split (fun hlt=>?_) (fun hlt=>?_)
 · have hlt':i<l.length:=by
    simp only[au,decide_eq_true_eq] at hlt
    omega
   have hok:kN l i=(u6 l[i] && !((l.take i).any fun y=>fa y l[i])):=by
    unfold kN
    rw[cm hlt']
   have hnext:kN l i=true→∀ j,j<i+1→kN l j=true:=fun hs j hj=>by
    rcases Nat.lt_or_eq_of_le (Nat.lt_succ_iff.1 hj) with h5 | h5
    · exact hall j h5
    · exact h5 ▸ hs
   have hq1:=mu l[i]
   obtain⟨q1,heq1⟩ : ∃ q,q=u6 l[i]:=⟨_,rfl⟩
   rw[← heq1] at hq1
   have hq2:=kZ (l.take i) h (by rw[List.length_take,Nat.min_eq_left hi];exact hh.less hi) (by rw[List.length_take];omega) l[i]
   obtain⟨q2,heq2⟩ : ∃ q,q=((l.take i).any fun y=>fa y l[i]):=⟨_,rfl⟩
   rw[← heq2] at hq2
   conv=>whnf
   repeat (refine aa.of ?_;conv=>whnf)
   refine ar.aj (ak.index ae (t:=119) rfl rfl rfl (by first | omega | (dsimp only;omega)) (by first | omega | (dsimp only;omega)) hh.nil fun ad had=>?_)
   conv=>whnf
   repeat (refine aa.of ?_;conv=>whnf)
   refine ar.aj (ak.aU ae (t:=179) rfl rfl (ad:=ad) (k:=i*4) (L:=l.flatMap cM) (m:=cM l[i]) (.fact fun w hw=>had ▸ hw) (by simp) (bj (cf:=cM) (z:=4) (fun _=>rfl) hlt') rfl ?_)
   conv=>whnf
   repeat (refine aa.of ?_;conv=>whnf)
   intro b1
   conv=>whnf
   repeat (refine aa.of ?_;conv=>whnf)
   refine az.draw ae mixed rfl rfl ?_
   conv=>whnf
   rcases Nat.eq_zero_or_pos i with h0 | h0
   · have hg:mr (i:Int) 0=false:=by simp[aH];omega
     repeat' (first
      | (refine And.intro ?_ ?_<;>conv=>whnf)
      | (refine an.same rfl ?_;conv=>whnf)
      | (refine an.row rfl ?_;conv=>whnf)
      | (refine an.call rfl ?_;conv=>whnf)
      | (refine aS.of ?_;conv=>whnf)
      | (refine aa.of ?_;conv=>whnf)
      | (rw[hg];conv=>whnf)
      | (refine aw.val hq1 (fun w hw=>trivial) (fun v D hv=>?_);subst hv;conv=>whnf)
      | (refine ak.pP ae (t:=119) rfl rfl rfl i rfl (by have:=hh.cap;omega) ?_;conv=>whnf)
      | (refine aw.val (by have:=hq2;rw[List.length_take,Nat.min_eq_left hi] at this;exact this) (fun w hw=>by have h2:=af.take hw (i*4);rw[je (cf:=cM) (z:=4) (fun _=>rfl)] at h2;exact h2) (fun v D hv=>?_);subst hv;conv=>whnf)
      | (split<;>conv=>whnf)
      | (refine an.mk ?_ ?_;(focus (first | exact ao.refl _ | exact ao.left _ _ | exact ao.of_le ⟨List.sublist_append_left _ _,fun w h=>h⟩ | exact ao.of_le ⟨List.Sublist.refl _,fun w h=>h.1⟩));conv=>whnf))
     all_goals first
      | (refine⟨_,ao.refl _,?_⟩;rw[aZ hlt' (by rw[hok];((try subst heq1);(try subst heq2);(try subst heq3);simp only[cond_true,cond_false,au,aJ,aH,aI,aO,aN,decide_eq_true_eq,decide_eq_false_iff_not,beq_iff_eq,bne_iff_ne,ne_eq,beq_eq_false_iff_ne,bne_eq_false_iff_eq,Bool.not_eq_true,Bool.not_eq_false,Bool.and_true,Bool.true_and,Bool.and_false,Bool.false_and,Bool.or_true,Bool.or_false,Bool.true_or,Bool.false_or,Bool.not_eq_true',Bool.not_eq_false',Bool.not_true,Bool.not_false] at *;first | omega | (simp_all;done) | (simp_all;omega)))];first | done | rfl)
      | (
       refine⟨i+1,⟨⟨hlt',hnext (by rw[hok];((try subst heq1);(try subst heq2);(try subst heq3);simp only[cond_true,cond_false,au,aJ,aH,aI,aO,aN,decide_eq_true_eq,decide_eq_false_iff_not,beq_iff_eq,bne_iff_ne,ne_eq,beq_eq_false_iff_ne,bne_eq_false_iff_eq,Bool.not_eq_true,Bool.not_eq_false,Bool.and_true,Bool.true_and,Bool.and_false,Bool.false_and,Bool.or_true,Bool.or_false,Bool.true_or,Bool.false_or,Bool.not_eq_true',Bool.not_eq_false',Bool.not_true,Bool.not_false] at *;first | omega | (simp_all;done) | (simp_all;omega)))⟩,by dsimp only;omega⟩,?_,?_,ao.refl _⟩;(conv=>whnf);refine⟨?_,rfl⟩;repeat (first | exact ax.nil | refine ax.any ?_ | refine ax.cons ?_ | refine ax.eq (by rw[wrap_i64 (by omega)];rfl) ?_)
       (conv=>whnf);exact⟨⟨rfl,rfl⟩,trivial⟩)
   · have hg:mr (i:Int) 0=true:=by simp[aH];omega
     have hj:i - 1<l.length:=by omega
     have hw1:IntKind.i64.wrap ((i:Int) - 1)=((i - 1:Nat):Int):=by
      rw[wrap_i64 (by omega)]
      omega
     try rw[cm hj] at hok
     repeat' (first
      | (refine And.intro ?_ ?_<;>conv=>whnf)
      | (refine an.same rfl ?_;conv=>whnf)
      | (refine an.row rfl ?_;conv=>whnf)
      | (refine an.call rfl ?_;conv=>whnf)
      | (refine aS.of ?_;conv=>whnf)
      | (refine aa.of ?_;conv=>whnf)
      | (rw[hg];conv=>whnf)
      | (refine aw.val hq1 (fun w hw=>trivial) (fun v D hv=>?_);subst hv;conv=>whnf)
      | (refine ak.pP ae (t:=119) rfl rfl rfl i rfl (by have:=hh.cap;omega) ?_;conv=>whnf)
      | (refine aw.val (by have:=hq2;rw[List.length_take,Nat.min_eq_left hi] at this;exact this) (fun w hw=>by have h2:=af.take hw (i*4);rw[je (cf:=cM) (z:=4) (fun _=>rfl)] at h2;exact h2) (fun v D hv=>?_);subst hv;conv=>whnf)
      | (refine ak.index ae (t:=119) rfl rfl rfl (by first | omega | (dsimp only;omega)) (by first | omega | (dsimp only;omega)) hh.nil fun ad2 had2=>?_;conv=>whnf)
      | (split<;>conv=>whnf)
      | (refine an.mk ?_ ?_;(focus (first | exact ao.refl _ | exact ao.left _ _ | exact ao.of_le ⟨List.sublist_append_left _ _,fun w h=>h⟩ | exact ao.of_le ⟨List.Sublist.refl _,fun w h=>h.1⟩));conv=>whnf))
     all_goals first
      | (refine⟨_,ao.refl _,?_⟩;rw[aZ hlt' (by rw[hok];((try subst heq1);(try subst heq2);(try subst heq3);simp only[cond_true,cond_false,au,aJ,aH,aI,aO,aN,decide_eq_true_eq,decide_eq_false_iff_not,beq_iff_eq,bne_iff_ne,ne_eq,beq_eq_false_iff_ne,bne_eq_false_iff_eq,Bool.not_eq_true,Bool.not_eq_false,Bool.and_true,Bool.true_and,Bool.and_false,Bool.false_and,Bool.or_true,Bool.or_false,Bool.true_or,Bool.false_or,Bool.not_eq_true',Bool.not_eq_false',Bool.not_true,Bool.not_false] at *;first | omega | (simp_all;done) | (simp_all;omega)))];first | done | rfl)
      | (
       refine⟨i+1,⟨⟨hlt',hnext (by rw[hok];((try subst heq1);(try subst heq2);(try subst heq3);simp only[cond_true,cond_false,au,aJ,aH,aI,aO,aN,decide_eq_true_eq,decide_eq_false_iff_not,beq_iff_eq,bne_iff_ne,ne_eq,beq_eq_false_iff_ne,bne_eq_false_iff_eq,Bool.not_eq_true,Bool.not_eq_false,Bool.and_true,Bool.true_and,Bool.and_false,Bool.false_and,Bool.or_true,Bool.or_false,Bool.true_or,Bool.false_or,Bool.not_eq_true',Bool.not_eq_false',Bool.not_true,Bool.not_false] at *;first | omega | (simp_all;done) | (simp_all;omega)))⟩,by dsimp only;omega⟩,?_,?_,ao.refl _⟩;(conv=>whnf);refine⟨?_,rfl⟩;repeat (first | exact ax.nil | refine ax.any ?_ | refine ax.cons ?_ | refine ax.eq (by rw[wrap_i64 (by omega)];rfl) ?_)
       (conv=>whnf);exact⟨⟨rfl,rfl⟩,trivial⟩)
 · have hie:i=l.length:=by
    simp only[au,decide_eq_false_iff_not] at hlt
    omega
   subst hie
   conv=>whnf
   repeat (refine aa.of ?_;conv=>whnf)
   rw[bH hall,Bool.true_and]
   repeat' (first
    | (refine And.intro ?_ ?_<;>conv=>whnf)
    | (refine an.same rfl ?_;conv=>whnf)
    | (refine an.row rfl ?_;conv=>whnf)
    | (refine an.call rfl ?_;conv=>whnf)
    | (refine aS.of ?_;conv=>whnf)
    | (refine aa.of ?_;conv=>whnf)
    | (cases m0<;>conv=>whnf)
    | (split<;>conv=>whnf)
    | (refine an.mk ?_ ?_;(focus (first | exact ao.refl _ | exact ao.left _ _ | exact ao.of_le ⟨List.sublist_append_left _ _,fun w h=>h⟩ | exact ao.of_le ⟨List.Sublist.refl _,fun w h=>h.1⟩));conv=>whnf))
   all_goals refine⟨_,ao.refl _,?_⟩
   all_goals first | rfl | (congr 1;done) | (congr 1;rw[Bool.eq_iff_iff];simp_all [aI,au,aJ,aH,aO,aN,and_assoc];done) | (congr 1;rw[Bool.eq_iff_iff];simp_all [aI,au,aJ,aH,aO,aN,and_assoc];omega) | (congr 1;rw[Bool.eq_iff_iff];(try cases q1)<;>(try cases q2)<;>(try cases q3)<;>(try simp_all [aI,au,aJ,aH,aO,aN,and_assoc])<;>(try omega);done)
end Go.Proofs.YtlnhdpjnlffaoaaGreatDoor
