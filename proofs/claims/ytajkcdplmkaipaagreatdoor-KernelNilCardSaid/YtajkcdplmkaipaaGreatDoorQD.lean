/- Parts of the proof: Tab, NzA, AaA, AaB, AaC, AaD, AaE, AaF, AaG, AaH, AaI, AaJ, AaK, AaL, AaM, AaN, AaO, AaP, AaQ. -/
import Derived.Test.YtajkcdplmkaipaaGreatDoorQA
import Derived.Test.YtajkcdplmkaipaaGreatDoorProg
import Derived.KernelRfl
import Derived.Test.YtajkcdplmkaipaaGreatDoorQC
namespace Go.Proofs.YtajkcdplmkaipaaGreatDoor
open Go Go.Sx

abbrev Z0 : Value := .int .i64 0
abbrev ZF : Value := .bool false
abbrev ZS : Value := .slice none 0 0
abbrev zero54 : List Value :=
 [Z0, Z0, Z0, ZF, ZF, ZF, Z0, ZS, Z0, Z0, Z0, ZF, ZF, ZF, Z0, ZS, Z0, Z0, Z0, ZF, ZF, ZF, Z0, ZS, Z0, Z0, Z0, ZF, ZF, ZF, Z0, ZS, Z0, Z0, Z0, ZF, ZF, ZF, Z0, ZS, Z0, Z0, Z0, ZF, ZF, ZF, Z0, ZS, Z0, Z0, Z0, ZF, ZF, ZF, Z0, ZS, Z0, Z0, Z0, ZF, ZF, ZF, Z0, ZS, Z0, Z0, Z0, ZF, ZF, ZF, Z0, ZS, Z0, Z0, Z0, ZF, ZF, ZF, Z0, ZS, Z0, Z0, Z0, ZF, ZF, ZF, Z0, ZS, Z0, Z0, Z0, ZF, ZF, ZF, Z0, ZS, Z0, Z0, Z0, ZF, ZF, ZF, Z0, ZS, Z0, Z0, Z0, ZF, ZF, ZF, Z0, ZS, Z0, Z0, Z0, ZF, ZF, ZF, Z0, ZS, Z0, Z0, Z0, ZF, ZF, ZF, Z0, ZS, Z0, Z0, Z0, ZF, ZF, ZF, Z0, ZS, Z0, Z0, Z0, ZF, ZF, ZF, Z0, ZS, Z0, Z0, Z0, ZF, ZF, ZF, Z0, ZS, Z0, Z0, Z0, ZF, ZF, ZF, Z0, ZS, Z0, Z0, Z0, ZF, ZF, ZF, Z0, ZS, Z0, Z0, Z0, ZF, ZF, ZF, Z0, ZS, Z0, Z0, Z0, ZF, ZF, ZF, Z0, ZS, Z0, Z0, Z0, ZF, ZF, ZF, Z0, ZS, Z0, Z0, Z0, ZF, ZF, ZF, Z0, ZS, Z0, Z0, Z0, ZF, ZF, ZF, Z0, ZS, Z0, Z0, Z0, ZF, ZF, ZF, Z0, ZS, Z0, Z0, Z0, ZF, ZF, ZF, Z0, ZS, Z0, Z0, Z0, ZF, ZF, ZF, Z0, ZS, Z0, Z0, Z0, ZF, ZF, ZF, Z0, ZS, Z0, Z0, Z0, ZF, ZF, ZF, Z0, ZS, Z0, Z0, Z0, ZF, ZF, ZF, Z0, ZS]
abbrev zero74 : List Value :=
 [ZS, ZS, ZS, ZS, ZS, ZS, ZS, ZS, ZS, ZS, ZS, ZS, ZS, ZS, ZS, ZS, ZS, ZS, ZS, ZS, ZS, ZS, ZS, ZS, ZS, ZS, ZS, ZS, ZS, ZS, ZS, ZS]
abbrev zero88 : List Value :=
 [ZS, Z0, Z0, Z0, ZS, ZS, ZF, Z0, Z0, Z0, ZS, Z0, Z0, Z0, ZS, ZF, Z0, Z0, Z0, ZS, Z0, Z0, Z0, ZS]
abbrev zero89 : List Value :=
 [ZS, Z0, Z0, Z0, ZS, ZS, ZF, Z0, Z0, Z0, ZS, Z0, Z0, Z0, ZS, ZF, Z0, Z0, Z0, ZS, Z0, Z0, Z0, ZS]
abbrev zero90 : List Value :=
 [ZS, Z0, Z0, ZS, ZS, ZF, Z0, Z0, Z0, ZS, Z0, Z0, Z0, ZS, ZF, Z0, Z0, Z0, ZS, Z0, Z0, Z0, ZS]
abbrev zero91 : List Value :=
 [ZS, Z0, Z0, ZS, ZS, ZF, Z0, Z0, Z0, ZS, Z0, Z0, Z0, ZS, ZF, Z0, Z0, Z0, ZS, Z0, Z0, Z0, ZS]
abbrev zero100 : List Value :=
 [Z0, Z0, Z0, ZF, ZF, ZF, Z0, ZS, Z0, Z0, Z0, ZF, ZF, ZF, Z0, ZS, Z0, Z0, Z0, ZF, ZF, ZF, Z0, ZS, Z0, Z0, Z0, ZF, ZF, ZF, Z0, ZS, Z0, Z0, Z0, ZF, ZF, ZF, Z0, ZS, Z0, Z0, Z0, ZF, ZF, ZF, Z0, ZS, Z0, Z0, Z0, ZF, ZF, ZF, Z0, ZS, Z0, Z0, Z0, ZF, ZF, ZF, Z0, ZS, Z0, Z0, Z0, ZF, ZF, ZF, Z0, ZS, Z0, Z0, Z0, ZF, ZF, ZF, Z0, ZS, Z0, Z0, Z0, ZF, ZF, ZF, Z0, ZS, Z0, Z0, Z0, ZF, ZF, ZF, Z0, ZS, Z0, Z0, Z0, ZF, ZF, ZF, Z0, ZS, Z0, Z0, Z0, ZF, ZF, ZF, Z0, ZS, Z0, Z0, Z0, ZF, ZF, ZF, Z0, ZS, Z0, Z0, Z0, ZF, ZF, ZF, Z0, ZS, Z0, Z0, Z0, ZF, ZF, ZF, Z0, ZS, Z0, Z0, Z0, ZF, ZF, ZF, Z0, ZS, Z0, Z0, Z0, ZF, ZF, ZF, Z0, ZS, Z0, Z0, Z0, ZF, ZF, ZF, Z0, ZS, Z0, Z0, Z0, ZF, ZF, ZF, Z0, ZS, Z0, Z0, Z0, ZF, ZF, ZF, Z0, ZS, Z0, Z0, Z0, ZF, ZF, ZF, Z0, ZS, Z0, Z0, Z0, ZF, ZF, ZF, Z0, ZS, Z0, Z0, Z0, ZF, ZF, ZF, Z0, ZS, Z0, Z0, Z0, ZF, ZF, ZF, Z0, ZS, Z0, Z0, Z0, ZF, ZF, ZF, Z0, ZS, Z0, Z0, Z0, ZF, ZF, ZF, Z0, ZS, Z0, Z0, Z0, ZF, ZF, ZF, Z0, ZS, Z0, Z0, Z0, ZF, ZF, ZF, Z0, ZS, Z0, Z0, Z0, ZF, ZF, ZF, Z0, ZS, Z0, Z0, Z0, ZF, ZF, ZF, Z0, ZS, ZF, ZF, ZF, ZF, ZF, ZF, ZF, ZF, ZF, ZF, ZF, ZS, ZS, Z0, ZS, ZS, ZS, ZS, ZS, ZS, ZS, ZS, ZS, ZS, ZS, ZS, ZS, ZS, ZS, ZS, ZS, ZS, ZS, ZS, ZS, ZS, ZS, ZS, ZS, ZS, ZS, ZS, ZS, ZS, ZS, ZS, ZS, ZS, ZS, ZS, ZS, ZS, ZS, ZF, Z0, Z0, Z0, ZS, Z0, Z0, Z0, ZS, Z0, Z0, ZF, ZF, ZS, Z0, Z0, Z0, ZS, ZS, ZF, Z0, Z0, Z0, ZS, Z0, Z0, Z0, ZS, ZF, Z0, Z0, Z0, ZS, Z0, Z0, Z0, ZS, ZS, Z0, Z0, ZS, ZS, ZF, Z0, Z0, Z0, ZS, Z0, Z0, Z0, ZS, ZF, Z0, Z0, Z0, ZS, Z0, Z0, Z0, ZS, Z0, ZS, ZF, ZF, ZF, ZF, ZF, ZS, ZS, ZS, ZS]
abbrev zero101 : List Value :=
 [Z0, Z0, Z0, ZF, ZF, ZF, Z0, ZS, Z0, Z0, Z0, ZF, ZF, ZF, Z0, ZS, Z0, Z0, Z0, ZF, ZF, ZF, Z0, ZS, Z0, Z0, Z0, ZF, ZF, ZF, Z0, ZS, Z0, Z0, Z0, ZF, ZF, ZF, Z0, ZS, Z0, Z0, Z0, ZF, ZF, ZF, Z0, ZS, Z0, Z0, Z0, ZF, ZF, ZF, Z0, ZS, Z0, Z0, Z0, ZF, ZF, ZF, Z0, ZS, Z0, Z0, Z0, ZF, ZF, ZF, Z0, ZS, Z0, Z0, Z0, ZF, ZF, ZF, Z0, ZS, Z0, Z0, Z0, ZF, ZF, ZF, Z0, ZS, Z0, Z0, Z0, ZF, ZF, ZF, Z0, ZS, Z0, Z0, Z0, ZF, ZF, ZF, Z0, ZS, Z0, Z0, Z0, ZF, ZF, ZF, Z0, ZS, Z0, Z0, Z0, ZF, ZF, ZF, Z0, ZS, Z0, Z0, Z0, ZF, ZF, ZF, Z0, ZS, Z0, Z0, Z0, ZF, ZF, ZF, Z0, ZS, Z0, Z0, Z0, ZF, ZF, ZF, Z0, ZS, Z0, Z0, Z0, ZF, ZF, ZF, Z0, ZS, Z0, Z0, Z0, ZF, ZF, ZF, Z0, ZS, Z0, Z0, Z0, ZF, ZF, ZF, Z0, ZS, Z0, Z0, Z0, ZF, ZF, ZF, Z0, ZS, Z0, Z0, Z0, ZF, ZF, ZF, Z0, ZS, Z0, Z0, Z0, ZF, ZF, ZF, Z0, ZS, Z0, Z0, Z0, ZF, ZF, ZF, Z0, ZS, Z0, Z0, Z0, ZF, ZF, ZF, Z0, ZS, Z0, Z0, Z0, ZF, ZF, ZF, Z0, ZS, Z0, Z0, Z0, ZF, ZF, ZF, Z0, ZS, Z0, Z0, Z0, ZF, ZF, ZF, Z0, ZS, Z0, Z0, Z0, ZF, ZF, ZF, Z0, ZS, Z0, Z0, Z0, ZF, ZF, ZF, Z0, ZS, Z0, Z0, Z0, ZF, ZF, ZF, Z0, ZS, ZF, ZF, ZF, ZF, ZF, ZF, ZF, ZF, ZF, ZF, ZF, ZS, ZS, Z0, ZS, ZS, ZS, ZS, ZS, ZS, ZS, ZS, ZS, ZS, ZS, ZS, ZS, ZS, ZS, ZS, ZS, ZS, ZS, ZS, ZS, ZS, ZS, ZS, ZS, ZS, ZS, ZS, ZS, ZS, ZS, ZS, ZS, ZS, ZS, ZS, ZS, ZS, ZS, ZF, Z0, Z0, Z0, ZS, Z0, Z0, Z0, ZS, Z0, Z0, ZF, ZF, ZS, Z0, Z0, Z0, ZS, ZS, ZF, Z0, Z0, Z0, ZS, Z0, Z0, Z0, ZS, ZF, Z0, Z0, Z0, ZS, Z0, Z0, Z0, ZS, ZS, Z0, Z0, ZS, ZS, ZF, Z0, Z0, Z0, ZS, Z0, Z0, Z0, ZS, ZF, Z0, Z0, Z0, ZS, Z0, Z0, Z0, ZS, Z0, ZS, ZF, ZF, ZF, ZF, ZF, ZS, ZS, ZS, ZS]
abbrev zero104 : List Value :=
 [Z0, Z0, Z0, ZF, ZF, ZF, Z0, ZS, Z0, Z0, Z0, ZF, ZF, ZF, Z0, ZS, Z0, Z0, Z0, ZF, ZF, ZF, Z0, ZS, Z0, Z0, Z0, ZF, ZF, ZF, Z0, ZS, Z0, Z0, Z0, ZF, ZF, ZF, Z0, ZS, Z0, Z0, Z0, ZF, ZF, ZF, Z0, ZS, Z0, Z0, Z0, ZF, ZF, ZF, Z0, ZS, Z0, Z0, Z0, ZF, ZF, ZF, Z0, ZS, Z0, Z0, Z0, ZF, ZF, ZF, Z0, ZS, Z0, Z0, Z0, ZF, ZF, ZF, Z0, ZS, Z0, Z0, Z0, ZF, ZF, ZF, Z0, ZS, Z0, Z0, Z0, ZF, ZF, ZF, Z0, ZS, Z0, Z0, Z0, ZF, ZF, ZF, Z0, ZS, Z0, Z0, Z0, ZF, ZF, ZF, Z0, ZS, Z0, Z0, Z0, ZF, ZF, ZF, Z0, ZS, Z0, Z0, Z0, ZF, ZF, ZF, Z0, ZS, Z0, Z0, Z0, ZF, ZF, ZF, Z0, ZS, Z0, Z0, Z0, ZF, ZF, ZF, Z0, ZS, Z0, Z0, Z0, ZF, ZF, ZF, Z0, ZS, Z0, Z0, Z0, ZF, ZF, ZF, Z0, ZS, Z0, Z0, Z0, ZF, ZF, ZF, Z0, ZS, Z0, Z0, Z0, ZF, ZF, ZF, Z0, ZS, Z0, Z0, Z0, ZF, ZF, ZF, Z0, ZS, Z0, Z0, Z0, ZF, ZF, ZF, Z0, ZS, Z0, Z0, Z0, ZF, ZF, ZF, Z0, ZS, Z0, Z0, Z0, ZF, ZF, ZF, Z0, ZS, Z0, Z0, Z0, ZF, ZF, ZF, Z0, ZS, Z0, Z0, Z0, ZF, ZF, ZF, Z0, ZS, Z0, Z0, Z0, ZF, ZF, ZF, Z0, ZS, Z0, Z0, Z0, ZF, ZF, ZF, Z0, ZS, Z0, Z0, Z0, ZF, ZF, ZF, Z0, ZS, Z0, Z0, Z0, ZF, ZF, ZF, Z0, ZS]
abbrev zero119 : List Value :=
 [ZS, ZS, ZS, ZS, ZS, ZS, ZS, ZS, ZS, ZS, ZS, ZS, ZS, ZS, ZS, ZS, ZS, ZS, ZS, ZS, ZS, ZS, ZS, ZS, ZS, ZS, ZS, ZS, ZS, ZS, ZS, ZS]
abbrev zero134 : List Value :=
 [ZS, Z0, Z0, Z0, ZS, ZS, ZF, Z0, Z0, Z0, ZS, Z0, Z0, ZS, ZF, Z0, Z0, Z0, ZS, Z0, Z0, ZS]
abbrev zero135 : List Value :=
 [ZS, Z0, Z0, Z0, ZS, ZS, ZF, Z0, Z0, Z0, ZS, Z0, Z0, ZS, ZF, Z0, Z0, Z0, ZS, Z0, Z0, ZS]
abbrev zero140 : List Value :=
 [ZS, Z0, Z0, ZS, ZS, ZF, Z0, Z0, Z0, ZS, Z0, Z0, ZS, ZF, Z0, Z0, Z0, ZS, Z0, Z0, ZS]
abbrev zero141 : List Value :=
 [ZS, Z0, Z0, ZS, ZS, ZF, Z0, Z0, Z0, ZS, Z0, Z0, ZS, ZF, Z0, Z0, Z0, ZS, Z0, Z0, ZS]
abbrev zero148 : List Value :=
 [Z0, Z0, Z0, ZF, ZF, ZF, Z0, ZS, Z0, Z0, Z0, ZF, ZF, ZF, Z0, ZS, Z0, Z0, Z0, ZF, ZF, ZF, Z0, ZS, Z0, Z0, Z0, ZF, ZF, ZF, Z0, ZS, Z0, Z0, Z0, ZF, ZF, ZF, Z0, ZS, Z0, Z0, Z0, ZF, ZF, ZF, Z0, ZS, Z0, Z0, Z0, ZF, ZF, ZF, Z0, ZS, Z0, Z0, Z0, ZF, ZF, ZF, Z0, ZS, Z0, Z0, Z0, ZF, ZF, ZF, Z0, ZS, Z0, Z0, Z0, ZF, ZF, ZF, Z0, ZS, Z0, Z0, Z0, ZF, ZF, ZF, Z0, ZS, Z0, Z0, Z0, ZF, ZF, ZF, Z0, ZS, Z0, Z0, Z0, ZF, ZF, ZF, Z0, ZS, Z0, Z0, Z0, ZF, ZF, ZF, Z0, ZS, Z0, Z0, Z0, ZF, ZF, ZF, Z0, ZS, Z0, Z0, Z0, ZF, ZF, ZF, Z0, ZS, Z0, Z0, Z0, ZF, ZF, ZF, Z0, ZS, Z0, Z0, Z0, ZF, ZF, ZF, Z0, ZS, Z0, Z0, Z0, ZF, ZF, ZF, Z0, ZS, Z0, Z0, Z0, ZF, ZF, ZF, Z0, ZS, Z0, Z0, Z0, ZF, ZF, ZF, Z0, ZS, Z0, Z0, Z0, ZF, ZF, ZF, Z0, ZS, Z0, Z0, Z0, ZF, ZF, ZF, Z0, ZS, Z0, Z0, Z0, ZF, ZF, ZF, Z0, ZS, Z0, Z0, Z0, ZF, ZF, ZF, Z0, ZS, Z0, Z0, Z0, ZF, ZF, ZF, Z0, ZS, Z0, Z0, Z0, ZF, ZF, ZF, Z0, ZS, Z0, Z0, Z0, ZF, ZF, ZF, Z0, ZS, Z0, Z0, Z0, ZF, ZF, ZF, Z0, ZS, Z0, Z0, Z0, ZF, ZF, ZF, Z0, ZS, Z0, Z0, Z0, ZF, ZF, ZF, Z0, ZS, Z0, Z0, Z0, ZF, ZF, ZF, Z0, ZS, ZF, ZF, ZF, ZF, ZF, ZF, ZF, ZF, ZF, ZF, ZF, ZS, ZS, Z0, ZS, ZS, ZS, ZS, ZS, ZS, ZS, ZS, ZS, ZS, ZS, ZS, ZS, ZS, ZS, ZS, ZS, ZS, ZS, ZS, ZS, ZS, ZS, ZS, ZS, ZS, ZS, ZS, ZS, ZS, ZS, ZS, ZS, ZS, ZS, ZS, ZS, ZS, ZS, ZF, Z0, Z0, Z0, ZS, Z0, Z0, Z0, ZS, Z0, Z0, ZF, ZF, ZS, Z0, Z0, Z0, ZS, ZS, ZF, Z0, Z0, Z0, ZS, Z0, Z0, ZS, ZF, Z0, Z0, Z0, ZS, Z0, Z0, ZS, ZS, Z0, Z0, ZS, ZS, ZF, Z0, Z0, Z0, ZS, Z0, Z0, ZS, ZF, Z0, Z0, Z0, ZS, Z0, Z0, ZS, Z0, ZS, ZF, ZF, ZF, ZF, ZF, ZS, ZS, ZS, ZS]
abbrev zero149 : List Value :=
 [Z0, Z0, Z0, ZF, ZF, ZF, Z0, ZS, Z0, Z0, Z0, ZF, ZF, ZF, Z0, ZS, Z0, Z0, Z0, ZF, ZF, ZF, Z0, ZS, Z0, Z0, Z0, ZF, ZF, ZF, Z0, ZS, Z0, Z0, Z0, ZF, ZF, ZF, Z0, ZS, Z0, Z0, Z0, ZF, ZF, ZF, Z0, ZS, Z0, Z0, Z0, ZF, ZF, ZF, Z0, ZS, Z0, Z0, Z0, ZF, ZF, ZF, Z0, ZS, Z0, Z0, Z0, ZF, ZF, ZF, Z0, ZS, Z0, Z0, Z0, ZF, ZF, ZF, Z0, ZS, Z0, Z0, Z0, ZF, ZF, ZF, Z0, ZS, Z0, Z0, Z0, ZF, ZF, ZF, Z0, ZS, Z0, Z0, Z0, ZF, ZF, ZF, Z0, ZS, Z0, Z0, Z0, ZF, ZF, ZF, Z0, ZS, Z0, Z0, Z0, ZF, ZF, ZF, Z0, ZS, Z0, Z0, Z0, ZF, ZF, ZF, Z0, ZS, Z0, Z0, Z0, ZF, ZF, ZF, Z0, ZS, Z0, Z0, Z0, ZF, ZF, ZF, Z0, ZS, Z0, Z0, Z0, ZF, ZF, ZF, Z0, ZS, Z0, Z0, Z0, ZF, ZF, ZF, Z0, ZS, Z0, Z0, Z0, ZF, ZF, ZF, Z0, ZS, Z0, Z0, Z0, ZF, ZF, ZF, Z0, ZS, Z0, Z0, Z0, ZF, ZF, ZF, Z0, ZS, Z0, Z0, Z0, ZF, ZF, ZF, Z0, ZS, Z0, Z0, Z0, ZF, ZF, ZF, Z0, ZS, Z0, Z0, Z0, ZF, ZF, ZF, Z0, ZS, Z0, Z0, Z0, ZF, ZF, ZF, Z0, ZS, Z0, Z0, Z0, ZF, ZF, ZF, Z0, ZS, Z0, Z0, Z0, ZF, ZF, ZF, Z0, ZS, Z0, Z0, Z0, ZF, ZF, ZF, Z0, ZS, Z0, Z0, Z0, ZF, ZF, ZF, Z0, ZS, Z0, Z0, Z0, ZF, ZF, ZF, Z0, ZS, ZF, ZF, ZF, ZF, ZF, ZF, ZF, ZF, ZF, ZF, ZF, ZS, ZS, Z0, ZS, ZS, ZS, ZS, ZS, ZS, ZS, ZS, ZS, ZS, ZS, ZS, ZS, ZS, ZS, ZS, ZS, ZS, ZS, ZS, ZS, ZS, ZS, ZS, ZS, ZS, ZS, ZS, ZS, ZS, ZS, ZS, ZS, ZS, ZS, ZS, ZS, ZS, ZS, ZF, Z0, Z0, Z0, ZS, Z0, Z0, Z0, ZS, Z0, Z0, ZF, ZF, ZS, Z0, Z0, Z0, ZS, ZS, ZF, Z0, Z0, Z0, ZS, Z0, Z0, ZS, ZF, Z0, Z0, Z0, ZS, Z0, Z0, ZS, ZS, Z0, Z0, ZS, ZS, ZF, Z0, Z0, Z0, ZS, Z0, Z0, ZS, ZF, Z0, Z0, Z0, ZS, Z0, Z0, ZS, Z0, ZS, ZF, ZF, ZF, ZF, ZF, ZS, ZS, ZS, ZS]
abbrev zero474 : List Value :=
 [Z0, Z0, .string ⟨#[]⟩, Z0, Z0, Z0, .string ⟨#[]⟩, Z0, Z0, Z0, .string ⟨#[]⟩, Z0, Z0, Z0, .string ⟨#[]⟩, Z0, Z0, Z0, .string ⟨#[]⟩, Z0, Z0, Z0, .string ⟨#[]⟩, Z0, Z0, Z0, .string ⟨#[]⟩, Z0, Z0, Z0, .string ⟨#[]⟩, Z0, Z0, Z0, .string ⟨#[]⟩, Z0, Z0, Z0, .string ⟨#[]⟩, Z0, Z0, Z0, .string ⟨#[]⟩, Z0, Z0, Z0, .string ⟨#[]⟩, Z0, Z0, Z0, .string ⟨#[]⟩, Z0, Z0, Z0, .string ⟨#[]⟩, Z0, Z0, Z0, .string ⟨#[]⟩, Z0, Z0, Z0, .string ⟨#[]⟩, Z0, Z0, Z0, .string ⟨#[]⟩, Z0, Z0, Z0, .string ⟨#[]⟩, Z0, Z0, Z0, .string ⟨#[]⟩, Z0, Z0, Z0, .string ⟨#[]⟩, Z0, Z0, Z0, .string ⟨#[]⟩, Z0, Z0, Z0, .string ⟨#[]⟩, Z0, Z0, Z0, .string ⟨#[]⟩, Z0, Z0, Z0, .string ⟨#[]⟩, Z0, Z0, Z0, .string ⟨#[]⟩, Z0, Z0, Z0, .string ⟨#[]⟩, Z0, Z0, Z0, .string ⟨#[]⟩, Z0, Z0, Z0, .string ⟨#[]⟩, Z0]
set_option maxHeartbeats 4000000 in
set_option maxRecDepth 100000 in
def tab : Tab :=
 [(2, ⟨.int .i64, 1, [.int .i64 0], [], 8⟩),
  (3, ⟨.int .i64, 1, [.int .i64 0], [], 8⟩),
  (4, ⟨.bool, 1, [.bool false], [], 1⟩),
  (5, ⟨.int .u8, 1, [.int .u8 0], [], 1⟩),
  (9, ⟨.str, 1, [.string ⟨#[]⟩], [], 16⟩),
  (12, ⟨.int .u64, 1, [.int .u64 0], [], 8⟩),
  (13, ⟨.struct, 2, [.string ⟨#[]⟩, .int .u64 0], [(0, 1, false), (1, 1, false)], 24⟩),
  (21, ⟨.int .i32, 1, [.int .i32 0], [], 4⟩),
  (22, ⟨.arr 4 3, 4, [.int .i64 0, .int .i64 0, .int .i64 0, .int .i64 0], [], 32⟩),
  (23, ⟨.slice 5, 1, [.slice none 0 0], [], 24⟩),
  (24, ⟨.slice 157, 1, [.slice none 0 0], [], 24⟩),
  (25, ⟨.struct, 8, [.int .i64 0, .int .i64 0, .int .i64 0, .int .i64 0, .int .i64 0, .int .i64 0, .slice none 0 0, .slice none 0 0], [(0, 1, false), (1, 1, false), (2, 4, true), (6, 1, false), (7, 1, false)], 96⟩),
  (26, ⟨.struct, 8, [.int .i64 0, .int .i64 0, .int .i64 0, .int .i64 0, .int .i64 0, .int .i64 0, .slice none 0 0, .slice none 0 0], [(0, 1, false), (1, 1, false), (2, 4, true), (6, 1, false), (7, 1, false)], 96⟩),
  (29, ⟨.slice 26, 1, [.slice none 0 0], [], 24⟩),
  (30, ⟨.ptr 168, 1, [.pointer none], [], 8⟩),
  (31, ⟨.int .i64, 1, [.int .i64 0], [], 8⟩),
  (32, ⟨.struct, 4, [.int .i64 0, .int .i64 0, .bool false, .slice none 0 0], [(0, 1, false), (1, 1, false), (2, 1, false), (3, 1, false)], 48⟩),
  (33, ⟨.struct, 4, [.int .i64 0, .int .i64 0, .bool false, .slice none 0 0], [(0, 1, false), (1, 1, false), (2, 1, false), (3, 1, false)], 48⟩),
  (35, ⟨.struct, 9, [.int .i64 0, .int .i64 0, .int .i64 0, .int .i64 0, .int .i64 0, .int .i64 0, .int .i64 0, .int .i64 0, .slice none 0 0], [(0, 1, false), (1, 1, false), (2, 1, false), (3, 1, false), (4, 4, true), (8, 1, false)], 88⟩),
  (36, ⟨.struct, 9, [.int .i64 0, .int .i64 0, .int .i64 0, .int .i64 0, .int .i64 0, .int .i64 0, .int .i64 0, .int .i64 0, .slice none 0 0], [(0, 1, false), (1, 1, false), (2, 1, false), (3, 1, false), (4, 4, true), (8, 1, false)], 88⟩),
  (42, ⟨.slice 253, 1, [.slice none 0 0], [], 24⟩),
  (44, ⟨.slice 176, 1, [.slice none 0 0], [], 24⟩),
  (46, ⟨.slice 179, 1, [.slice none 0 0], [], 24⟩),
  (52, ⟨.struct, 8, [.int .i64 0, .int .i64 0, .int .i64 0, .bool false, .bool false, .bool false, .int .i64 0, .slice none 0 0], [(0, 1, false), (1, 1, false), (2, 1, false), (3, 1, false), (4, 1, false), (5, 1, false), (6, 1, false), (7, 1, false)], 64⟩),
  (53, ⟨.struct, 8, [.int .i64 0, .int .i64 0, .int .i64 0, .bool false, .bool false, .bool false, .int .i64 0, .slice none 0 0], [(0, 1, false), (1, 1, false), (2, 1, false), (3, 1, false), (4, 1, false), (5, 1, false), (6, 1, false), (7, 1, false)], 64⟩),
  (54, ⟨.arr 32 53, 256, zero54, [], 2048⟩),
  (55, ⟨.arr 11 4, 11, [.bool false, .bool false, .bool false, .bool false, .bool false, .bool false, .bool false, .bool false, .bool false, .bool false, .bool false], [], 11⟩),
  (56, ⟨.slice 36, 1, [.slice none 0 0], [], 24⟩),
  (57, ⟨.slice 201, 1, [.slice none 0 0], [], 24⟩),
  (58, ⟨.struct, 2, [.slice none 0 0, .slice none 0 0], [(0, 1, false), (1, 1, false)], 48⟩),
  (59, ⟨.struct, 2, [.slice none 0 0, .slice none 0 0], [(0, 1, false), (1, 1, false)], 48⟩),
  (60, ⟨.slice 209, 1, [.slice none 0 0], [], 24⟩),
  (61, ⟨.struct, 2, [.int .i64 0, .slice none 0 0], [(0, 1, false), (1, 1, false)], 32⟩),
  (62, ⟨.struct, 2, [.int .i64 0, .slice none 0 0], [(0, 1, false), (1, 1, false)], 32⟩),
  (63, ⟨.slice 211, 1, [.slice none 0 0], [], 24⟩),
  (64, ⟨.slice 211, 1, [.slice none 0 0], [], 24⟩),
  (65, ⟨.slice 214, 1, [.slice none 0 0], [], 24⟩),
  (66, ⟨.slice 214, 1, [.slice none 0 0], [], 24⟩),
  (67, ⟨.slice 3, 1, [.slice none 0 0], [], 24⟩),
  (68, ⟨.slice 3, 1, [.slice none 0 0], [], 24⟩),
  (69, ⟨.slice 23, 1, [.slice none 0 0], [], 24⟩),
  (70, ⟨.struct, 1, [.slice none 0 0], [(0, 1, false)], 24⟩),
  (71, ⟨.struct, 1, [.slice none 0 0], [(0, 1, false)], 24⟩),
  (72, ⟨.slice 198, 1, [.slice none 0 0], [], 24⟩),
  (73, ⟨.slice 198, 1, [.slice none 0 0], [], 24⟩),
  (74, ⟨.arr 32 73, 32, zero74, [], 768⟩),
  (75, ⟨.slice 217, 1, [.slice none 0 0], [], 24⟩),
  (76, ⟨.slice 217, 1, [.slice none 0 0], [], 24⟩),
  (77, ⟨.struct, 4, [.int .i64 0, .int .i64 0, .int .i64 0, .slice none 0 0], [(0, 1, false), (1, 1, false), (2, 1, false), (3, 1, false)], 48⟩),
  (78, ⟨.struct, 4, [.int .i64 0, .int .i64 0, .int .i64 0, .slice none 0 0], [(0, 1, false), (1, 1, false), (2, 1, false), (3, 1, false)], 48⟩),
  (79, ⟨.struct, 3, [.int .i64 0, .int .i64 0, .slice none 0 0], [(0, 1, false), (1, 1, false), (2, 1, false)], 40⟩),
  (80, ⟨.struct, 3, [.int .i64 0, .int .i64 0, .slice none 0 0], [(0, 1, false), (1, 1, false), (2, 1, false)], 40⟩),
  (81, ⟨.struct, 9, [.bool false, .int .i64 0, .int .i64 0, .int .i64 0, .slice none 0 0, .int .i64 0, .int .i64 0, .int .i64 0, .slice none 0 0], [(0, 1, false), (1, 4, true), (5, 1, false), (6, 3, true)], 104⟩),
  (82, ⟨.struct, 9, [.bool false, .int .i64 0, .int .i64 0, .int .i64 0, .slice none 0 0, .int .i64 0, .int .i64 0, .int .i64 0, .slice none 0 0], [(0, 1, false), (1, 4, true), (5, 1, false), (6, 3, true)], 104⟩),
  (83, ⟨.struct, 10, [.slice none 0 0, .bool false, .int .i64 0, .int .i64 0, .int .i64 0, .slice none 0 0, .int .i64 0, .int .i64 0, .int .i64 0, .slice none 0 0], [(0, 1, false), (1, 9, true)], 128⟩),
  (84, ⟨.struct, 10, [.slice none 0 0, .bool false, .int .i64 0, .int .i64 0, .int .i64 0, .slice none 0 0, .int .i64 0, .int .i64 0, .int .i64 0, .slice none 0 0], [(0, 1, false), (1, 9, true)], 128⟩),
  (85, ⟨.struct, 4, [.int .i64 0, .int .i64 0, .bool false, .bool false], [(0, 1, false), (1, 1, false), (2, 1, false), (3, 1, false)], 24⟩),
  (86, ⟨.struct, 4, [.int .i64 0, .int .i64 0, .bool false, .bool false], [(0, 1, false), (1, 1, false), (2, 1, false), (3, 1, false)], 24⟩),
  (87, ⟨.slice 290, 1, [.slice none 0 0], [], 24⟩),
  (88, ⟨.struct, 24, zero88, [(0, 1, false), (1, 1, false), (2, 1, false), (3, 1, false), (4, 1, false), (5, 1, false), (6, 9, true), (15, 9, true)], 304⟩),
  (89, ⟨.struct, 24, zero89, [(0, 1, false), (1, 1, false), (2, 1, false), (3, 1, false), (4, 1, false), (5, 1, false), (6, 9, true), (15, 9, true)], 304⟩),
  (90, ⟨.struct, 23, zero90, [(0, 1, false), (1, 1, false), (2, 1, false), (3, 1, false), (4, 1, false), (5, 9, true), (14, 9, true)], 296⟩),
  (91, ⟨.struct, 23, zero91, [(0, 1, false), (1, 1, false), (2, 1, false), (3, 1, false), (4, 1, false), (5, 9, true), (14, 9, true)], 296⟩),
  (92, ⟨.slice 291, 1, [.slice none 0 0], [], 24⟩),
  (93, ⟨.struct, 2, [.int .i64 0, .slice none 0 0], [(0, 1, false), (1, 1, false)], 32⟩),
  (94, ⟨.struct, 2, [.int .i64 0, .slice none 0 0], [(0, 1, false), (1, 1, false)], 32⟩),
  (95, ⟨.arr 5 4, 5, [.bool false, .bool false, .bool false, .bool false, .bool false], [], 5⟩),
  (96, ⟨.slice 293, 1, [.slice none 0 0], [], 24⟩),
  (97, ⟨.struct, 6, [.bool false, .bool false, .bool false, .bool false, .bool false, .slice none 0 0], [(0, 5, true), (5, 1, false)], 32⟩),
  (98, ⟨.struct, 6, [.bool false, .bool false, .bool false, .bool false, .bool false, .slice none 0 0], [(0, 5, true), (5, 1, false)], 32⟩),
  (99, ⟨.slice 219, 1, [.slice none 0 0], [], 24⟩),
  (100, ⟨.struct, 380, zero100, [(0, 256, true), (256, 11, true), (267, 2, true), (269, 2, true), (271, 1, false), (272, 1, false), (273, 1, false), (274, 1, true), (275, 32, true), (307, 1, false), (308, 10, true), (318, 4, true), (322, 24, true), (346, 23, true), (369, 2, true), (371, 6, true), (377, 1, false), (378, 1, false), (379, 1, false)], 3920⟩),
  (101, ⟨.struct, 380, zero101, [(0, 256, true), (256, 11, true), (267, 2, true), (269, 2, true), (271, 1, false), (272, 1, false), (273, 1, false), (274, 1, true), (275, 32, true), (307, 1, false), (308, 10, true), (318, 4, true), (322, 24, true), (346, 23, true), (369, 2, true), (371, 6, true), (377, 1, false), (378, 1, false), (379, 1, false)], 3920⟩),
  (103, ⟨.struct, 8, [.int .i64 0, .int .i64 0, .int .i64 0, .bool false, .bool false, .bool false, .int .i64 0, .slice none 0 0], [(0, 1, false), (1, 1, false), (2, 1, false), (3, 1, false), (4, 1, false), (5, 1, false), (6, 1, false), (7, 1, false)], 64⟩),
  (104, ⟨.arr 32 103, 256, zero104, [], 2048⟩),
  (105, ⟨.slice 202, 1, [.slice none 0 0], [], 24⟩),
  (106, ⟨.struct, 2, [.slice none 0 0, .slice none 0 0], [(0, 1, false), (1, 1, false)], 48⟩),
  (107, ⟨.struct, 2, [.slice none 0 0, .slice none 0 0], [(0, 1, false), (1, 1, false)], 48⟩),
  (108, ⟨.slice 206, 1, [.slice none 0 0], [], 24⟩),
  (109, ⟨.struct, 2, [.int .i64 0, .slice none 0 0], [(0, 1, false), (1, 1, false)], 32⟩),
  (110, ⟨.struct, 2, [.int .i64 0, .slice none 0 0], [(0, 1, false), (1, 1, false)], 32⟩),
  (111, ⟨.slice 212, 1, [.slice none 0 0], [], 24⟩),
  (112, ⟨.slice 212, 1, [.slice none 0 0], [], 24⟩),
  (113, ⟨.slice 215, 1, [.slice none 0 0], [], 24⟩),
  (114, ⟨.slice 215, 1, [.slice none 0 0], [], 24⟩),
  (115, ⟨.slice 3, 1, [.slice none 0 0], [], 24⟩),
  (116, ⟨.struct, 1, [.slice none 0 0], [(0, 1, false)], 24⟩),
  (117, ⟨.slice 199, 1, [.slice none 0 0], [], 24⟩),
  (118, ⟨.slice 199, 1, [.slice none 0 0], [], 24⟩),
  (119, ⟨.arr 32 118, 32, zero119, [], 768⟩),
  (120, ⟨.slice 218, 1, [.slice none 0 0], [], 24⟩),
  (121, ⟨.slice 218, 1, [.slice none 0 0], [], 24⟩),
  (122, ⟨.struct, 4, [.int .i64 0, .int .i64 0, .int .i64 0, .slice none 0 0], [(0, 1, false), (1, 1, false), (2, 1, false), (3, 1, false)], 48⟩),
  (123, ⟨.struct, 3, [.int .i64 0, .int .i64 0, .slice none 0 0], [(0, 1, false), (1, 1, false), (2, 1, false)], 40⟩),
  (124, ⟨.struct, 9, [.bool false, .int .i64 0, .int .i64 0, .int .i64 0, .slice none 0 0, .int .i64 0, .int .i64 0, .int .i64 0, .slice none 0 0], [(0, 1, false), (1, 4, true), (5, 1, false), (6, 3, true)], 104⟩),
  (125, ⟨.struct, 9, [.bool false, .int .i64 0, .int .i64 0, .int .i64 0, .slice none 0 0, .int .i64 0, .int .i64 0, .int .i64 0, .slice none 0 0], [(0, 1, false), (1, 4, true), (5, 1, false), (6, 3, true)], 104⟩),
  (126, ⟨.struct, 10, [.slice none 0 0, .bool false, .int .i64 0, .int .i64 0, .int .i64 0, .slice none 0 0, .int .i64 0, .int .i64 0, .int .i64 0, .slice none 0 0], [(0, 1, false), (1, 9, true)], 128⟩),
  (127, ⟨.struct, 10, [.slice none 0 0, .bool false, .int .i64 0, .int .i64 0, .int .i64 0, .slice none 0 0, .int .i64 0, .int .i64 0, .int .i64 0, .slice none 0 0], [(0, 1, false), (1, 9, true)], 128⟩),
  (128, ⟨.struct, 4, [.int .i64 0, .int .i64 0, .bool false, .bool false], [(0, 1, false), (1, 1, false), (2, 1, false), (3, 1, false)], 24⟩),
  (129, ⟨.slice 234, 1, [.slice none 0 0], [], 24⟩),
  (130, ⟨.struct, 4, [.int .i64 0, .int .i64 0, .int .i64 0, .slice none 0 0], [(0, 1, false), (1, 1, false), (2, 1, false), (3, 1, false)], 48⟩),
  (131, ⟨.struct, 3, [.int .i64 0, .int .i64 0, .slice none 0 0], [(0, 1, false), (1, 1, false), (2, 1, false)], 40⟩),
  (132, ⟨.struct, 8, [.bool false, .int .i64 0, .int .i64 0, .int .i64 0, .slice none 0 0, .int .i64 0, .int .i64 0, .slice none 0 0], [(0, 1, false), (1, 4, true), (5, 3, true)], 96⟩),
  (133, ⟨.struct, 8, [.bool false, .int .i64 0, .int .i64 0, .int .i64 0, .slice none 0 0, .int .i64 0, .int .i64 0, .slice none 0 0], [(0, 1, false), (1, 4, true), (5, 3, true)], 96⟩),
  (134, ⟨.struct, 22, zero134, [(0, 1, false), (1, 1, false), (2, 1, false), (3, 1, false), (4, 1, false), (5, 1, false), (6, 8, true), (14, 8, true)], 288⟩),
  (135, ⟨.struct, 22, zero135, [(0, 1, false), (1, 1, false), (2, 1, false), (3, 1, false), (4, 1, false), (5, 1, false), (6, 8, true), (14, 8, true)], 288⟩),
  (136, ⟨.struct, 4, [.int .i64 0, .int .i64 0, .int .i64 0, .slice none 0 0], [(0, 1, false), (1, 1, false), (2, 1, false), (3, 1, false)], 48⟩),
  (137, ⟨.struct, 3, [.int .i64 0, .int .i64 0, .slice none 0 0], [(0, 1, false), (1, 1, false), (2, 1, false)], 40⟩),
  (138, ⟨.struct, 8, [.bool false, .int .i64 0, .int .i64 0, .int .i64 0, .slice none 0 0, .int .i64 0, .int .i64 0, .slice none 0 0], [(0, 1, false), (1, 4, true), (5, 3, true)], 96⟩),
  (139, ⟨.struct, 8, [.bool false, .int .i64 0, .int .i64 0, .int .i64 0, .slice none 0 0, .int .i64 0, .int .i64 0, .slice none 0 0], [(0, 1, false), (1, 4, true), (5, 3, true)], 96⟩),
  (140, ⟨.struct, 21, zero140, [(0, 1, false), (1, 1, false), (2, 1, false), (3, 1, false), (4, 1, false), (5, 8, true), (13, 8, true)], 280⟩),
  (141, ⟨.struct, 21, zero141, [(0, 1, false), (1, 1, false), (2, 1, false), (3, 1, false), (4, 1, false), (5, 8, true), (13, 8, true)], 280⟩),
  (142, ⟨.slice 237, 1, [.slice none 0 0], [], 24⟩),
  (143, ⟨.struct, 2, [.int .i64 0, .slice none 0 0], [(0, 1, false), (1, 1, false)], 32⟩),
  (144, ⟨.struct, 2, [.int .i64 0, .slice none 0 0], [(0, 1, false), (1, 1, false)], 32⟩),
  (145, ⟨.slice 240, 1, [.slice none 0 0], [], 24⟩),
  (146, ⟨.struct, 6, [.bool false, .bool false, .bool false, .bool false, .bool false, .slice none 0 0], [(0, 5, true), (5, 1, false)], 32⟩),
  (147, ⟨.struct, 6, [.bool false, .bool false, .bool false, .bool false, .bool false, .slice none 0 0], [(0, 5, true), (5, 1, false)], 32⟩),
  (148, ⟨.struct, 376, zero148, [(0, 256, true), (256, 11, true), (267, 2, true), (269, 2, true), (271, 1, false), (272, 1, false), (273, 1, false), (274, 1, true), (275, 32, true), (307, 1, false), (308, 10, true), (318, 4, true), (322, 22, true), (344, 21, true), (365, 2, true), (367, 6, true), (373, 1, false), (374, 1, false), (375, 1, false)], 3888⟩),
  (149, ⟨.struct, 376, zero149, [(0, 256, true), (256, 11, true), (267, 2, true), (269, 2, true), (271, 1, false), (272, 1, false), (273, 1, false), (274, 1, true), (275, 32, true), (307, 1, false), (308, 10, true), (318, 4, true), (322, 22, true), (344, 21, true), (365, 2, true), (367, 6, true), (373, 1, false), (374, 1, false), (375, 1, false)], 3888⟩),
  (154, ⟨.arr 3 3, 3, [.int .i64 0, .int .i64 0, .int .i64 0], [], 24⟩),
  (156, ⟨.struct, 15, [.int .i64 0, .int .i64 0, .int .i64 0, .int .i64 0, .int .i64 0, .int .i64 0, .int .i64 0, .int .i64 0, .int .i64 0, .int .i64 0, .int .i64 0, .int .i64 0, .int .i64 0, .slice none 0 0, .slice none 0 0], [(0, 1, false), (1, 4, true), (5, 9, true), (14, 1, false)], 152⟩),
  (157, ⟨.struct, 15, [.int .i64 0, .int .i64 0, .int .i64 0, .int .i64 0, .int .i64 0, .int .i64 0, .int .i64 0, .int .i64 0, .int .i64 0, .int .i64 0, .int .i64 0, .int .i64 0, .int .i64 0, .slice none 0 0, .slice none 0 0], [(0, 1, false), (1, 4, true), (5, 9, true), (14, 1, false)], 152⟩),
  (166, ⟨.ptr 149, 1, [.pointer none], [], 8⟩),
  (167, ⟨.struct, 1, [.pointer none], [(0, 1, false)], 8⟩),
  (168, ⟨.struct, 1, [.pointer none], [(0, 1, false)], 8⟩),
  (170, ⟨.slice 262, 1, [.slice none 0 0], [], 24⟩),
  (175, ⟨.struct, 6, [.int .i64 0, .int .i64 0, .int .i64 0, .int .i64 0, .int .i64 0, .bool false], [(0, 1, false), (1, 1, false), (2, 1, false), (3, 1, false), (4, 1, false), (5, 1, false)], 48⟩),
  (176, ⟨.struct, 6, [.int .i64 0, .int .i64 0, .int .i64 0, .int .i64 0, .int .i64 0, .bool false], [(0, 1, false), (1, 1, false), (2, 1, false), (3, 1, false), (4, 1, false), (5, 1, false)], 48⟩),
  (178, ⟨.struct, 3, [.int .i64 0, .int .i64 0, .int .i64 0], [(0, 1, false), (1, 1, false), (2, 1, false)], 24⟩),
  (179, ⟨.struct, 3, [.int .i64 0, .int .i64 0, .int .i64 0], [(0, 1, false), (1, 1, false), (2, 1, false)], 24⟩),
  (197, ⟨.struct, 3, [.int .i64 0, .int .i64 0, .bool false], [(0, 1, false), (1, 1, false), (2, 1, false)], 24⟩),
  (198, ⟨.struct, 3, [.int .i64 0, .int .i64 0, .bool false], [(0, 1, false), (1, 1, false), (2, 1, false)], 24⟩),
  (199, ⟨.struct, 3, [.int .i64 0, .int .i64 0, .bool false], [(0, 1, false), (1, 1, false), (2, 1, false)], 24⟩),
  (200, ⟨.struct, 3, [.int .i64 0, .int .i64 0, .int .i64 0], [(0, 1, false), (1, 1, false), (2, 1, false)], 24⟩),
  (201, ⟨.struct, 3, [.int .i64 0, .int .i64 0, .int .i64 0], [(0, 1, false), (1, 1, false), (2, 1, false)], 24⟩),
  (202, ⟨.struct, 3, [.int .i64 0, .int .i64 0, .int .i64 0], [(0, 1, false), (1, 1, false), (2, 1, false)], 24⟩),
  (203, ⟨.struct, 3, [.int .i64 0, .int .i64 0, .int .i64 0], [(0, 1, false), (1, 1, false), (2, 1, false)], 24⟩),
  (204, ⟨.struct, 3, [.int .i64 0, .int .i64 0, .int .i64 0], [(0, 1, false), (1, 1, false), (2, 1, false)], 24⟩),
  (205, ⟨.struct, 6, [.int .i64 0, .int .i64 0, .int .i64 0, .int .i64 0, .int .i64 0, .int .i64 0], [(0, 1, false), (1, 1, false), (2, 1, false), (3, 3, true)], 48⟩),
  (206, ⟨.struct, 6, [.int .i64 0, .int .i64 0, .int .i64 0, .int .i64 0, .int .i64 0, .int .i64 0], [(0, 1, false), (1, 1, false), (2, 1, false), (3, 3, true)], 48⟩),
  (207, ⟨.struct, 3, [.int .i64 0, .int .i64 0, .int .i64 0], [(0, 1, false), (1, 1, false), (2, 1, false)], 24⟩),
  (208, ⟨.struct, 6, [.int .i64 0, .int .i64 0, .int .i64 0, .int .i64 0, .int .i64 0, .int .i64 0], [(0, 1, false), (1, 1, false), (2, 1, false), (3, 3, true)], 48⟩),
  (209, ⟨.struct, 6, [.int .i64 0, .int .i64 0, .int .i64 0, .int .i64 0, .int .i64 0, .int .i64 0], [(0, 1, false), (1, 1, false), (2, 1, false), (3, 3, true)], 48⟩),
  (210, ⟨.struct, 4, [.int .i64 0, .int .i64 0, .int .i64 0, .int .i64 0], [(0, 1, false), (1, 1, false), (2, 1, false), (3, 1, false)], 32⟩),
  (211, ⟨.struct, 4, [.int .i64 0, .int .i64 0, .int .i64 0, .int .i64 0], [(0, 1, false), (1, 1, false), (2, 1, false), (3, 1, false)], 32⟩),
  (212, ⟨.struct, 4, [.int .i64 0, .int .i64 0, .int .i64 0, .int .i64 0], [(0, 1, false), (1, 1, false), (2, 1, false), (3, 1, false)], 32⟩),
  (213, ⟨.struct, 3, [.int .i64 0, .int .i64 0, .int .i64 0], [(0, 1, false), (1, 1, false), (2, 1, false)], 24⟩),
  (214, ⟨.struct, 3, [.int .i64 0, .int .i64 0, .int .i64 0], [(0, 1, false), (1, 1, false), (2, 1, false)], 24⟩),
  (215, ⟨.struct, 3, [.int .i64 0, .int .i64 0, .int .i64 0], [(0, 1, false), (1, 1, false), (2, 1, false)], 24⟩),
  (216, ⟨.struct, 4, [.int .i64 0, .int .i64 0, .int .i64 0, .bool false], [(0, 1, false), (1, 1, false), (2, 1, false), (3, 1, false)], 32⟩),
  (217, ⟨.struct, 4, [.int .i64 0, .int .i64 0, .int .i64 0, .bool false], [(0, 1, false), (1, 1, false), (2, 1, false), (3, 1, false)], 32⟩),
  (218, ⟨.struct, 4, [.int .i64 0, .int .i64 0, .int .i64 0, .bool false], [(0, 1, false), (1, 1, false), (2, 1, false), (3, 1, false)], 32⟩),
  (219, ⟨.struct, 3, [.int .i64 0, .int .i64 0, .int .i64 0], [(0, 1, false), (1, 1, false), (2, 1, false)], 24⟩),
  (230, ⟨.ptr 23, 1, [.pointer none], [], 8⟩),
  (231, ⟨.slice 230, 1, [.slice none 0 0], [], 24⟩),
  (233, ⟨.struct, 2, [.int .i64 0, .slice none 0 0], [(0, 1, false), (1, 1, false)], 32⟩),
  (234, ⟨.struct, 2, [.int .i64 0, .slice none 0 0], [(0, 1, false), (1, 1, false)], 32⟩),
  (236, ⟨.struct, 2, [.int .i64 0, .int .i64 0], [(0, 1, false), (1, 1, false)], 16⟩),
  (237, ⟨.struct, 2, [.int .i64 0, .int .i64 0], [(0, 1, false), (1, 1, false)], 16⟩),
  (239, ⟨.struct, 4, [.int .i64 0, .int .i64 0, .int .i64 0, .slice none 0 0], [(0, 1, false), (1, 1, false), (2, 1, false), (3, 1, false)], 48⟩),
  (240, ⟨.struct, 4, [.int .i64 0, .int .i64 0, .int .i64 0, .slice none 0 0], [(0, 1, false), (1, 1, false), (2, 1, false), (3, 1, false)], 48⟩),
  (252, ⟨.struct, 8, [.int .i64 0, .int .i64 0, .int .i64 0, .int .i64 0, .int .i64 0, .int .i64 0, .int .i64 0, .slice none 0 0], [(0, 1, false), (1, 1, false), (2, 1, false), (3, 3, true), (6, 1, false), (7, 1, false)], 80⟩),
  (253, ⟨.struct, 8, [.int .i64 0, .int .i64 0, .int .i64 0, .int .i64 0, .int .i64 0, .int .i64 0, .int .i64 0, .slice none 0 0], [(0, 1, false), (1, 1, false), (2, 1, false), (3, 3, true), (6, 1, false), (7, 1, false)], 80⟩),
  (258, ⟨.ptr 103, 1, [.pointer none], [], 8⟩),
  (261, ⟨.struct, 4, [.int .i64 0, .int .i64 0, .int .i64 0, .int .i64 0], [(0, 1, false), (1, 1, false), (2, 1, false), (3, 1, false)], 32⟩),
  (262, ⟨.struct, 4, [.int .i64 0, .int .i64 0, .int .i64 0, .int .i64 0], [(0, 1, false), (1, 1, false), (2, 1, false), (3, 1, false)], 32⟩),
  (267, ⟨.slice 123, 1, [.slice none 0 0], [], 24⟩),
  (268, ⟨.slice 131, 1, [.slice none 0 0], [], 24⟩),
  (269, ⟨.slice 137, 1, [.slice none 0 0], [], 24⟩),
  (284, ⟨.slice 4, 1, [.slice none 0 0], [], 24⟩),
  (290, ⟨.struct, 2, [.int .i64 0, .slice none 0 0], [(0, 1, false), (1, 1, false)], 32⟩),
  (291, ⟨.struct, 2, [.int .i64 0, .int .i64 0], [(0, 1, false), (1, 1, false)], 16⟩),
  (293, ⟨.struct, 4, [.int .i64 0, .int .i64 0, .int .i64 0, .slice none 0 0], [(0, 1, false), (1, 1, false), (2, 1, false), (3, 1, false)], 48⟩),
  (296, ⟨.slice 299, 1, [.slice none 0 0], [], 24⟩),
  (298, ⟨.struct, 4, [.int .i64 0, .int .i64 0, .int .i64 0, .slice none 0 0], [(0, 3, true), (3, 1, false)], 48⟩),
  (299, ⟨.struct, 4, [.int .i64 0, .int .i64 0, .int .i64 0, .slice none 0 0], [(0, 3, true), (3, 1, false)], 48⟩),
  (310, ⟨.other, 1, [.nilFunc], [], 8⟩),
  (311, ⟨.arr 17 310, 17, [.nilFunc, .nilFunc, .nilFunc, .nilFunc, .nilFunc, .nilFunc, .nilFunc, .nilFunc, .nilFunc, .nilFunc, .nilFunc, .nilFunc, .nilFunc, .nilFunc, .nilFunc, .nilFunc, .nilFunc], [], 136⟩),
  (323, ⟨.ptr 125, 1, [.pointer none], [], 8⟩),
  (335, ⟨.ptr 128, 1, [.pointer none], [], 8⟩),
  (363, ⟨.slice 299, 1, [.slice none 0 0], [], 24⟩),
  (367, ⟨.ptr 110, 1, [.pointer none], [], 8⟩),
  (380, ⟨.slice 204, 1, [.slice none 0 0], [], 24⟩),
  (391, ⟨.ptr 135, 1, [.pointer none], [], 8⟩),
  (394, ⟨.ptr 133, 1, [.pointer none], [], 8⟩),
  (396, ⟨.ptr 141, 1, [.pointer none], [], 8⟩),
  (397, ⟨.ptr 139, 1, [.pointer none], [], 8⟩),
  (415, ⟨.ptr 363, 1, [.pointer none], [], 8⟩),
  (416, ⟨.map 3 204, 1, [.map none], [], 8⟩),
  (417, ⟨.map 419 4, 1, [.map none], [], 8⟩),
  (418, ⟨.struct, 4, [.int .i64 0, .int .i64 0, .int .i64 0, .int .i64 0], [(0, 1, false), (1, 3, true)], 32⟩),
  (419, ⟨.struct, 4, [.int .i64 0, .int .i64 0, .int .i64 0, .int .i64 0], [(0, 1, false), (1, 3, true)], 32⟩),
  (423, ⟨.map 202 3, 1, [.map none], [], 8⟩),
  (462, ⟨.int .u64, 1, [.int .u64 0], [], 8⟩),
  (464, ⟨.arr 5 3, 5, [.int .i64 0, .int .i64 0, .int .i64 0, .int .i64 0, .int .i64 0], [], 40⟩),
  (466, ⟨.int .u64, 1, [.int .u64 0], [], 8⟩),
  (472, ⟨.struct, 4, [.int .i64 0, .int .i64 0, .string ⟨#[]⟩, .int .i64 0], [(0, 1, false), (1, 1, false), (2, 1, false), (3, 1, false)], 40⟩),
  (473, ⟨.struct, 4, [.int .i64 0, .int .i64 0, .string ⟨#[]⟩, .int .i64 0], [(0, 1, false), (1, 1, false), (2, 1, false), (3, 1, false)], 40⟩),
  (474, ⟨.arr 28 473, 112, zero474, [], 1120⟩),
  (496, ⟨.map 3 4, 1, [.map none], [], 8⟩),
  (504, ⟨.slice 118, 1, [.slice none 0 0], [], 24⟩),
  (530, ⟨.int .i64, 1, [.int .i64 0], [], 8⟩),
  (537, ⟨.int .u32, 1, [.int .u32 0], [], 4⟩),
  (540, ⟨.int .u64, 1, [.int .u64 0], [], 8⟩),
  (544, ⟨.ptr 3, 1, [.pointer none], [], 8⟩),
  (546, ⟨.ptr 540, 1, [.pointer none], [], 8⟩),
  (558, ⟨.ptr 5, 1, [.pointer none], [], 8⟩)]

set_option maxHeartbeats 4000000 in
set_option maxRecDepth 100000 in
theorem tabOk : TabOk Tryz.prog tab := tabOk_of (by kernel_rfl)

end Go.Proofs.YtajkcdplmkaipaaGreatDoor
namespace Go.Proofs.YtajkcdplmkaipaaGreatDoor
open Go Go.Sx

theorem mixed : Tryz.prog.follows .mixedOrders = true := by kernel_rfl

end Go.Proofs.YtajkcdplmkaipaaGreatDoor
namespace Go.Proofs.YtajkcdplmkaipaaGreatDoor
open Go Go.Sx
set_option maxRecDepth 100000
set_option maxHeartbeats 4000000
set_option linter.unusedVariables false
set_option linter.unusedSimpArgs false

theorem isNaN_spec (a : Int) : PureSpec Tryz.prog 228 [.int .i64 a] (fun _ => True) (fun v F => v = .bool false) := by
 refine PureSpec.of_xc tabOk Tryz.func228 rfl (by decide) (n := Tryz.f228.ntmps - 1) rfl rfl fun w0 av => ?_
 conv => whnf
 repeat (first | (refine XSame.of ?_; conv => whnf) | (refine XDep.all _ _ _ _ ?_; conv => whnf))
 exact ⟨_, Ent.refl _, by simp [iNe_eq]⟩

def cmpI (a b : Int) : Int := if a < b then -1 else if b < a then 1 else 0

theorem cmp_spec (a b : Int) : PureSpec Tryz.prog 148 [.int .i64 a, .int .i64 b] (fun _ => True) (fun v F => v = .int .i64 (cmpI a b)) := by
 have h1 := isNaN_spec a
 have h2 := isNaN_spec b
 obtain ⟨z, hz⟩ : ∃ z, z = false := ⟨_, rfl⟩
 rw [← hz] at h1 h2
 refine PureSpec.of_xc tabOk Tryz.func148 rfl (by decide) (n := Tryz.f148.ntmps - 2) rfl rfl fun w0 av => ?_
 conv => whnf
 repeat (first | (refine XSame.of ?_; conv => whnf) | (refine XDep.all _ _ _ _ ?_; conv => whnf))
 refine XCall.val h1 (fun w hw => trivial) (fun v D hv => ?_)
 subst hv
 conv => whnf
 repeat (first | (refine XSame.of ?_; conv => whnf) | (refine XDep.all _ _ _ _ ?_; conv => whnf))
 refine XCall.val h2 (fun w hw => trivial) (fun v D hv => ?_)
 subst hv
 conv => whnf
 repeat (first | (refine XSame.of ?_; conv => whnf) | (refine XDep.all _ _ _ _ ?_; conv => whnf))
 refine XIf.no hz ?_
 conv => whnf
 repeat (first | (refine XSame.of ?_; conv => whnf) | (refine XDep.all _ _ _ _ ?_; conv => whnf))
 refine XIf.no hz ?_
 conv => whnf
 repeat (first | (refine XSame.of ?_; conv => whnf) | (refine XDep.all _ _ _ _ ?_; conv => whnf))
 refine XIf.split (fun h => ?_) (fun h => ?_)
 · conv => whnf
   repeat (first | (refine XSame.of ?_; conv => whnf) | (refine XDep.all _ _ _ _ ?_; conv => whnf))
   refine ⟨_, Ent.refl _, ?_⟩
   rw [iLt_eq, decide_eq_true_eq] at h
   unfold cmpI
   rw [if_pos h]
 rw [iLt_eq, decide_eq_false_iff_not] at h
 conv => whnf
 repeat (first | (refine XSame.of ?_; conv => whnf) | (refine XDep.all _ _ _ _ ?_; conv => whnf))
 refine XIf.split (fun k => ?_) (fun k => ?_)
 · conv => whnf
   repeat (first | (refine XSame.of ?_; conv => whnf) | (refine XDep.all _ _ _ _ ?_; conv => whnf))
   refine ⟨_, Ent.refl _, ?_⟩
   rw [iGt_eq, decide_eq_true_eq] at k
   unfold cmpI
   rw [if_neg h, if_pos k]
 · rw [iGt_eq, decide_eq_false_iff_not] at k
   conv => whnf
   repeat (first | (refine XSame.of ?_; conv => whnf) | (refine XDep.all _ _ _ _ ?_; conv => whnf))
   refine ⟨_, Ent.refl _, ?_⟩
   unfold cmpI
   rw [if_neg h, if_neg k]

def orI (x y : Int) : Int := if x ≠ 0 then x else y

theorem or_spec (x y : Int) (b c : Nat) (hc : 2 ≤ c) : PureSpec Tryz.prog 147 [.slice (some ⟨b, 0, none⟩) 2 c] (fun w => RowAt w (some ⟨b, 0, none⟩) [.int .i64 x, .int .i64 y]) (fun v F => v = .int .i64 (orI x y)) := by
 obtain ⟨o, ho⟩ : ∃ o : Nat, o = 2 := ⟨_, rfl⟩
 rw [← ho]
 refine PureSpec.of_xc tabOk Tryz.func147 rfl (by decide) (n := Tryz.f147.ntmps - 1) rfl rfl fun w0 av => ?_
 conv => whnf
 repeat (first | (refine XSame.of ?_; conv => whnf) | (refine XDep.all _ _ _ _ ?_; conv => whnf))
 refine XStop.loop tabOk (ι := Nat) ([5] ++ List.range' 8 9) (fun j => j ≤ 2 ∧ (1 ≤ j → x = 0) ∧ (2 ≤ j → y = 0)) (fun j => [(8, .v (.int .i64 (j : Int)))])
  (fun _ => []) (fun _ => ⟨fun w => RowAt w (some ⟨b, 0, none⟩) [.int .i64 x, .int .i64 y], []⟩) (fun j => 2 - j) 0 (by omega) ?_ rfl (Ent.refl _) fun i hi => ?_
 · conv => whnf
   repeat (first | exact FLe.nil | refine FLe.any ?_ | refine FLe.cons ?_)
 obtain ⟨hi, hx, hy⟩ := hi
 conv => whnf
 repeat (first | (refine XSame.of ?_; conv => whnf) | (refine XDep.all _ _ _ _ ?_; conv => whnf))
 refine XIf.split (fun hlt => ?_) (fun hlt => ?_)
 · have hlt' : i < 2 := by
    simp [iLt_eq] at hlt
    omega
   have hcell : ([.int .i64 x, .int .i64 y] : List Value)[i]? = some (.int .i64 (if i = 0 then x else y)) := by
    rcases i with _ | _ | i
    · rfl
    · rfl
    · omega
   conv => whnf
   repeat (first | (refine XSame.of ?_; conv => whnf) | (refine XDep.all _ _ _ _ ?_; conv => whnf))
   refine XVal.of_read (XRead.index tabOk (t := 67) rfl rfl rfl (by omega) (by omega) (fun h => by cases h) fun ad had => ?_)
   conv => whnf
   repeat (first | (refine XSame.of ?_; conv => whnf) | (refine XDep.all _ _ _ _ ?_; conv => whnf))
   refine XVal.of_read (XRead.loadF tabOk (t := 3) rfl rfl (ad := ad) (k := i) (L := [.int .i64 x, .int .i64 y]) (v := .int .i64 (if i = 0 then x else y)) (.fact fun w hw => had ▸ hw) (fun hs => by rw [Nat.mul_one]; rfl) hcell ?_)
   conv => whnf
   repeat (first | (refine XSame.of ?_; conv => whnf) | (refine XDep.all _ _ _ _ ?_; conv => whnf))
   refine XIf.split (fun hq => ?_) (fun hq => ?_)
   · simp only [iNe_eq, bne_iff_ne] at hq
     conv => whnf
     repeat (first | (refine XSame.of ?_; conv => whnf) | (refine XDep.all _ _ _ _ ?_; conv => whnf))
     refine ⟨_, Ent.refl _, ?_⟩
     congr 1
     unfold orI
     by_cases h0 : i = 0
     · rw [if_pos h0] at hq ⊢
       rw [if_pos hq]
     · rw [if_neg h0] at hq ⊢
       rw [if_neg (by rw [hx (by omega)]; simp)]
   · simp only [iNe_eq, bne_eq_false_iff_eq] at hq
     conv => whnf
     repeat (first | (refine XSame.of ?_; conv => whnf) | (refine XDep.all _ _ _ _ ?_; conv => whnf))
     refine ⟨i + 1, ⟨⟨hlt', fun _ => ?_, fun _ => ?_⟩, by dsimp only; omega⟩, ?_, ?_, Ent.refl _⟩
     · by_cases h0 : i = 0
       · rw [if_pos h0] at hq
         omega
       · exact hx (by omega)
     · rw [if_neg (by omega)] at hq
       omega
     · conv => whnf
       refine ⟨?_, rfl⟩
       repeat (first | exact FLe.nil | refine FLe.any ?_ | refine FLe.cons ?_ | refine FLe.eq (by rw [wrap_i64 (by omega)]; rfl) ?_)
     · conv => whnf
       exact trivial
 · have h2 : 2 ≤ i := by
    simp [iLt_eq] at hlt
    omega
   conv => whnf
   repeat (first | (refine XSame.of ?_; conv => whnf) | (refine XDep.all _ _ _ _ ?_; conv => whnf))
   refine ⟨_, Ent.refl _, ?_⟩
   unfold orI
   rw [hx (by omega), hy h2]
   rfl

def ordI (a b c d : Int) : Int := orI (cmpI a b) (cmpI c d)

end Go.Proofs.YtajkcdplmkaipaaGreatDoor
namespace Go.Proofs.YtajkcdplmkaipaaGreatDoor
open Go Go.Sx
set_option maxRecDepth 100000
set_option maxHeartbeats 4000000
set_option linter.unusedVariables false
set_option linter.unusedSimpArgs false

theorem porOrder_spec (a1 b1 c1 a2 b2 c2 : Int) : PureSpec Tryz.prog 237 [.agg ⟨[.int .i64 a1, .int .i64 b1, .int .i64 c1]⟩, .agg ⟨[.int .i64 a2, .int .i64 b2, .int .i64 c2]⟩] (fun _ => True) (fun v F => v = .int .i64 (ordI a1 a2 b1 b2)) := by
 have h1 := cmp_spec a1 a2
 have h2 := cmp_spec b1 b2
 unfold ordI
 generalize cmpI a1 a2 = x at *
 generalize cmpI b1 b2 = y at *
 refine PureSpec.of_xc tabOk Tryz.func237 rfl (by decide) (n := Tryz.f237.ntmps - 2) rfl rfl fun w0 av => ?_
 conv => whnf
 repeat (first | (refine XSame.of ?_; conv => whnf) | (refine XDep.all _ _ _ _ ?_; conv => whnf))
 intro b3
 conv => whnf
 repeat (first | (refine XSame.of ?_; conv => whnf) | (refine XDep.all _ _ _ _ ?_; conv => whnf))
 intro b4
 conv => whnf
 repeat (first | (refine XSame.of ?_; conv => whnf) | (refine XDep.all _ _ _ _ ?_; conv => whnf))
 refine XStop.draw tabOk mixed rfl rfl ?_
 conv => whnf
 repeat' (first
  | (refine And.intro ?_ ?_ <;> conv => whnf)
  | (refine XHeld.same rfl ?_; conv => whnf)
  | (refine XHeld.row rfl ?_; conv => whnf)
  | (refine XHeld.call rfl ?_; conv => whnf)
  | (refine XHeld.factCall rfl ?_; conv => whnf)
  | (refine XKeep.of ?_; conv => whnf)
  | (refine XSame.of ?_; conv => whnf)
  | (refine XDep.all _ _ _ _ ?_; conv => whnf)
  | (refine XCall.val h1 (fun w hw => trivial) (fun v D hv => ?_); subst hv; conv => whnf)
  | (refine XCall.val h2 (fun w hw => trivial) (fun v D hv => ?_); subst hv; conv => whnf)
  | (refine XVal.build tabOk (t := 67) rfl rfl rfl [.int .i64 x, .int .i64 y] rfl rfl (by simp [Value.cells]) (by decide) fun b5 => ?_; conv => whnf)
  | (refine XCall.ent (F' := ⟨fun w => RowAt w (some ⟨b5, 0, none⟩) [.int .i64 x, .int .i64 y], []⟩) (Ent.trans (G := ⟨fun w => True, [] ++ [(b5, Row.c [.int .i64 x, .int .i64 y])]⟩) (Ent.of_le ⟨by simp [Value.cells], fun w hw => trivial⟩) (Ent.trans Ent.share1 (Ent.imp fun w hw => hw.2))) ?_; refine XCall.val (or_spec x y b5 _ (Nat.le_refl _)) (fun w hw => hw) (fun v D hv => ?_); subst hv; conv => whnf)
  | (refine XHeld.mk ?_ ?_; (focus (first | exact Ent.refl _ | exact Ent.left _ _ | exact Ent.of_le ⟨List.sublist_append_left _ _, fun w h => h⟩ | exact Ent.of_le ⟨List.Sublist.refl _, fun w h => h.1⟩)); conv => whnf))
 all_goals exact ⟨_, Ent.refl _, rfl⟩

def fint : Option Nat → Int
 | some i => i
 | none => -1

theorem fint_any {α : Type} (l : List α) (p : α → Bool) : decide (fint (l.findIdx? p) ≥ 0) = l.any p := by
 cases h : l.findIdx? p with
 | none =>
  rw [List.findIdx?_eq_none_iff] at h
  have : l.any p = false := by
   rw [List.any_eq_false]
   intro x hx
   have := h x hx
   simp [this]
  rw [this]
  rfl
 | some i =>
  rw [List.findIdx?_eq_some_iff_getElem] at h
  obtain ⟨h1, h2, -⟩ := h
  have : l.any p = true := List.any_eq_true.2 ⟨_, List.getElem_mem h1, h2⟩
  rw [this]
  show decide ((i : Int) ≥ 0) = true
  simp

theorem byt_idx {α : Type} (vf : α → Value) (hone : ∀ x, oneCell (vf x) = true) (f : FuncId) (Pre : World → Prop) (p : α → Bool) (l : List α) (h : Hd) (hh : h.Ok l.length) (hl : l.length ≤ 140737488355328) (hf : ∀ e ∈ l, PureSpec Tryz.prog f [(vf e)] Pre (fun v F => v = .bool (p e))) :
 PureSpec Tryz.prog 274 [h.v l.length, .func (.func f) #[] #[]] (fun w => RowAt w h.a (l.map vf) ∧ Pre w) (fun v F => v = .int .i64 (fint (l.findIdx? p))) := by
 refine PureSpec.of_xc tabOk Tryz.func274 rfl (by decide) (n := Tryz.f274.ntmps - 2) rfl rfl fun w0 av => ?_
 conv => whnf
 refine XStop.loop tabOk (ι := Nat) ([5] ++ List.range' 8 11) (fun x => x ≤ l.length ∧ ∀ j (hj : j < l.length), j < x → p l[j] = false)
  (fun x => [(8, .v (.int .i64 (x : Int)))]) (fun _ => []) (fun _ => ⟨fun w => RowAt w h.a (l.map vf) ∧ Pre w, []⟩)
  (fun x => l.length - x) 0 ⟨Nat.zero_le _, fun j hj h => by omega⟩ ?_ rfl (Ent.refl _) fun i hi => ?_
 · conv => whnf
   repeat (first | exact FLe.nil | refine FLe.any ?_ | refine FLe.cons ?_)
 obtain ⟨hi, hall⟩ := hi
 conv => whnf
 refine XIf.split (fun hlt => ?_) (fun hlt => ?_)
 · have hlt' : i < l.length := by
    simp only [iLt_eq, decide_eq_true_eq] at hlt
    omega
   conv => whnf
   repeat (first | (refine XSame.of ?_; conv => whnf) | (refine XDep.all _ _ _ _ ?_; conv => whnf))
   refine XVal.of_read (XRead.index tabOk (t := 69) rfl rfl rfl (by omega) (by omega) hh.nil fun ad had => ?_)
   conv => whnf
   repeat (first | (refine XSame.of ?_; conv => whnf) | (refine XDep.all _ _ _ _ ?_; conv => whnf))
   refine XVal.of_read (XRead.loadF tabOk (t := 23) rfl rfl (ad := ad) (k := i) (L := l.map vf) (v := vf l[i]) (.fact fun w hw => had ▸ hw.1) (fun hs => by rw [Nat.mul_one]; rfl) (by rw [List.getElem?_map, List.getElem?_eq_getElem hlt']; rfl) ?_)
   conv => whnf
   repeat (first | (refine XSame.of ?_; conv => whnf) | (refine XDep.all _ _ _ _ ?_; conv => whnf))
   refine XCall.val (hf _ (List.getElem_mem hlt')) (fun w hw => hw.2) (fun v D hv => ?_)
   generalize hq : p l[i] = q at hv
   subst hv
   cases q
   · conv => whnf
     repeat (first | (refine XSame.of ?_; conv => whnf) | (refine XDep.all _ _ _ _ ?_; conv => whnf))
     refine ⟨i + 1, ⟨⟨hlt', fun j hj h => ?_⟩, by dsimp only; omega⟩, ?_, ?_, Ent.refl _⟩
     · rcases Nat.lt_or_eq_of_le (Nat.lt_succ_iff.1 h) with h5 | h5
       · exact hall j hj h5
       · subst h5
         exact hq
     · conv => whnf
       refine ⟨?_, rfl⟩
       repeat (first | exact FLe.nil | refine FLe.any ?_ | refine FLe.cons ?_ | refine FLe.eq (by rw [wrap_i64 (by omega)]; rfl) ?_)
     · conv => whnf
       exact trivial
   · conv => whnf
     repeat (first | (refine XSame.of ?_; conv => whnf) | (refine XDep.all _ _ _ _ ?_; conv => whnf))
     refine ⟨_, Ent.refl _, ?_⟩
     have : l.findIdx? p = some i := by
      rw [List.findIdx?_eq_some_iff_getElem]
      exact ⟨hlt', hq, fun j hj => by simpa using hall j (by omega) hj⟩
     rw [this]
     rfl
 · have hie : i = l.length := by
    simp only [iLt_eq, decide_eq_false_iff_not] at hlt
    omega
   subst hie
   conv => whnf
   repeat (first | (refine XSame.of ?_; conv => whnf) | (refine XDep.all _ _ _ _ ?_; conv => whnf))
   refine ⟨_, Ent.refl _, ?_⟩
   have : l.findIdx? p = none := by
    rw [List.findIdx?_eq_none_iff]
    intro x hx
    obtain ⟨j, hj, rfl⟩ := List.getElem_of_mem hx
    simpa using hall j hj hj
   rw [this]
   rfl

theorem cap_idx {α : Type} (cf : α → List Value) (hz : ∀ x, (cf x).length = 6) (f : FuncId) (Pre : World → Prop) (p : α → Bool) (u0 u1 : Value) (l : List α) (h : Hd) (hh : h.Ok l.length) (hl : l.length ≤ 140737488355328) (hf : ∀ e ∈ l, PureSpec Tryz.prog f [.agg ⟨cf e⟩, u0, u1] Pre (fun v F => v = .bool (p e))) :
 PureSpec Tryz.prog 234 [h.v l.length, .func (.func f) #[] #[u0, u1]] (fun w => RowAt w h.a (l.flatMap cf) ∧ Pre w) (fun v F => v = .int .i64 (fint (l.findIdx? p))) := by
 refine PureSpec.of_xc tabOk Tryz.func234 rfl (by decide) (n := Tryz.f234.ntmps - 2) rfl rfl fun w0 av => ?_
 conv => whnf
 refine XStop.loop tabOk (ι := Nat) ([5] ++ List.range' 8 11) (fun x => x ≤ l.length ∧ ∀ j (hj : j < l.length), j < x → p l[j] = false)
  (fun x => [(8, .v (.int .i64 (x : Int)))]) (fun _ => []) (fun _ => ⟨fun w => RowAt w h.a (l.flatMap cf) ∧ Pre w, []⟩)
  (fun x => l.length - x) 0 ⟨Nat.zero_le _, fun j hj h => by omega⟩ ?_ rfl (Ent.refl _) fun i hi => ?_
 · conv => whnf
   repeat (first | exact FLe.nil | refine FLe.any ?_ | refine FLe.cons ?_)
 obtain ⟨hi, hall⟩ := hi
 conv => whnf
 refine XIf.split (fun hlt => ?_) (fun hlt => ?_)
 · have hlt' : i < l.length := by
    simp only [iLt_eq, decide_eq_true_eq] at hlt
    omega
   conv => whnf
   repeat (first | (refine XSame.of ?_; conv => whnf) | (refine XDep.all _ _ _ _ ?_; conv => whnf))
   refine XVal.of_read (XRead.index tabOk (t := 108) rfl rfl rfl (by omega) (by omega) hh.nil fun ad had => ?_)
   conv => whnf
   repeat (first | (refine XSame.of ?_; conv => whnf) | (refine XDep.all _ _ _ _ ?_; conv => whnf))
   refine XVal.of_read (XRead.loads tabOk (t := 206) rfl rfl (ad := ad) (k := i * 6) (L := l.flatMap cf) (m := cf l[i]) (.fact fun w hw => had ▸ hw.1) (by simp) (fm_get hz hlt') (hz _) ?_)
   conv => whnf
   repeat (first | (refine XSame.of ?_; conv => whnf) | (refine XDep.all _ _ _ _ ?_; conv => whnf))
   refine XCall.val (hf _ (List.getElem_mem hlt')) (fun w hw => hw.2) (fun v D hv => ?_)
   generalize hq : p l[i] = q at hv
   subst hv
   cases q
   · conv => whnf
     repeat (first | (refine XSame.of ?_; conv => whnf) | (refine XDep.all _ _ _ _ ?_; conv => whnf))
     refine ⟨i + 1, ⟨⟨hlt', fun j hj h => ?_⟩, by dsimp only; omega⟩, ?_, ?_, Ent.refl _⟩
     · rcases Nat.lt_or_eq_of_le (Nat.lt_succ_iff.1 h) with h5 | h5
       · exact hall j hj h5
       · subst h5
         exact hq
     · conv => whnf
       refine ⟨?_, rfl⟩
       repeat (first | exact FLe.nil | refine FLe.any ?_ | refine FLe.cons ?_ | refine FLe.eq (by rw [wrap_i64 (by omega)]; rfl) ?_)
     · conv => whnf
       exact trivial
   · conv => whnf
     repeat (first | (refine XSame.of ?_; conv => whnf) | (refine XDep.all _ _ _ _ ?_; conv => whnf))
     refine ⟨_, Ent.refl _, ?_⟩
     have : l.findIdx? p = some i := by
      rw [List.findIdx?_eq_some_iff_getElem]
      exact ⟨hlt', hq, fun j hj => by simpa using hall j (by omega) hj⟩
     rw [this]
     rfl
 · have hie : i = l.length := by
    simp only [iLt_eq, decide_eq_false_iff_not] at hlt
    omega
   subst hie
   conv => whnf
   repeat (first | (refine XSame.of ?_; conv => whnf) | (refine XDep.all _ _ _ _ ?_; conv => whnf))
   refine ⟨_, Ent.refl _, ?_⟩
   have : l.findIdx? p = none := by
    rw [List.findIdx?_eq_none_iff]
    intro x hx
    obtain ⟨j, hj, rfl⟩ := List.getElem_of_mem hx
    simpa using hall j hj hj
   rw [this]
   rfl

theorem cap_has {α : Type} (cf : α → List Value) (hz : ∀ x, (cf x).length = 6) (f : FuncId) (Pre : World → Prop) (p : α → Bool) (u0 u1 : Value) (l : List α) (h : Hd) (hh : h.Ok l.length) (hl : l.length ≤ 140737488355328) (hf : ∀ e ∈ l, PureSpec Tryz.prog f [.agg ⟨cf e⟩, u0, u1] Pre (fun v F => v = .bool (p e))) :
 PureSpec Tryz.prog 164 [h.v l.length, .func (.func f) #[] #[u0, u1]] (fun w => RowAt w h.a (l.flatMap cf) ∧ Pre w) (fun v F => v = .bool (l.any p)) := by
 have hi := cap_idx cf hz f Pre p u0 u1 l h hh hl hf
 have hv := fint_any l p
 generalize fint (l.findIdx? p) = j at *
 refine PureSpec.of_xc tabOk Tryz.func164 rfl (by decide) (n := Tryz.f164.ntmps - 2) rfl rfl fun w0 av => ?_
 conv => whnf
 repeat (first | (refine XSame.of ?_; conv => whnf) | (refine XDep.all _ _ _ _ ?_; conv => whnf))
 refine XCall.val hi (fun w hw => hw) (fun v D hv => ?_)
 subst hv
 conv => whnf
 repeat (first | (refine XSame.of ?_; conv => whnf) | (refine XDep.all _ _ _ _ ?_; conv => whnf))
 exact ⟨_, Ent.refl _, by rw [← hv, iGe_eq]⟩

end Go.Proofs.YtajkcdplmkaipaaGreatDoor
namespace Go.Proofs.YtajkcdplmkaipaaGreatDoor
open Go Go.Sx
set_option maxRecDepth 100000
set_option maxHeartbeats 4000000
set_option linter.unusedVariables false
set_option linter.unusedSimpArgs false

def allI (n : Nat) (q : Nat → Bool) : Bool := (List.range n).all q

theorem allI_true {n : Nat} {q : Nat → Bool} (h : ∀ j, j < n → q j = true) : allI n q = true := by
 unfold allI
 rw [List.all_eq_true]
 intro j hj
 exact h j (List.mem_range.1 hj)

theorem allI_false {n j : Nat} {q : Nat → Bool} (hj : j < n) (h : q j = false) : allI n q = false := by
 unfold allI
 rw [List.all_eq_false]
 exact ⟨j, List.mem_range.2 hj, by rw [h]; decide⟩

theorem allI_iff {n : Nat} {q : Nat → Bool} : allI n q = true ↔ ∀ j, j < n → q j = true := by
 unfold allI
 rw [List.all_eq_true]
 exact ⟨fun h j hj => h j (List.mem_range.2 hj), fun h j hj => h j (List.mem_range.1 hj)⟩

structure Se where
 page : Int
 frame : Int
 w : Bool
 deriving Inhabited

def seC (x : Se) : List Value := [.int .i64 x.page, .int .i64 x.frame, .bool x.w]

theorem bang {α : Type} [Inhabited α] {l : List α} {i : Nat} (h : i < l.length) : l[i]! = l[i] := by
 rw [getElem!_pos]

end Go.Proofs.YtajkcdplmkaipaaGreatDoor
namespace Go.Proofs.YtajkcdplmkaipaaGreatDoor
open Go Go.Sx
set_option maxRecDepth 100000
set_option maxHeartbeats 4000000
set_option linter.unusedVariables false
set_option linter.unusedSimpArgs false

structure Al where
 id : Int
 at' : Int
 deriving Inhabited

def alC (x : Al) : List Value := [.int .i64 x.id, .int .i64 x.at']

end Go.Proofs.YtajkcdplmkaipaaGreatDoor
namespace Go.Proofs.YtajkcdplmkaipaaGreatDoor
open Go Go.Sx
set_option maxRecDepth 100000
set_option maxHeartbeats 4000000
set_option linter.unusedVariables false
set_option linter.unusedSimpArgs false

structure Ti where
 owner : Int
 tag : Int
 due : Int
 deriving Inhabited
def tiC (x : Ti) : List Value := [.int .i64 x.owner, .int .i64 x.tag, .int .i64 x.due]

end Go.Proofs.YtajkcdplmkaipaaGreatDoor
namespace Go.Proofs.YtajkcdplmkaipaaGreatDoor
open Go Go.Sx
set_option maxRecDepth 100000
set_option maxHeartbeats 4000000
set_option linter.unusedVariables false
set_option linter.unusedSimpArgs false

structure Gr where
 owner : Int
 grantee : Int
 frame : Int
 rights : Int
 deriving Inhabited
def grC (x : Gr) : List Value := [.int .i64 x.owner, .int .i64 x.grantee, .int .i64 x.frame, .int .i64 x.rights]

end Go.Proofs.YtajkcdplmkaipaaGreatDoor
namespace Go.Proofs.YtajkcdplmkaipaaGreatDoor
open Go Go.Sx
set_option maxRecDepth 100000
set_option maxHeartbeats 4000000
set_option linter.unusedVariables false
set_option linter.unusedSimpArgs false

def intV (x : Int) : Value := .int .i64 x

end Go.Proofs.YtajkcdplmkaipaaGreatDoor
namespace Go.Proofs.YtajkcdplmkaipaaGreatDoor
open Go Go.Sx
set_option maxRecDepth 100000
set_option maxHeartbeats 4000000
set_option linter.unusedVariables false
set_option linter.unusedSimpArgs false

theorem indexQ_spec (x : Int) (l : List Int) (h : Hd) (hh : h.Ok l.length) (hl : l.length ≤ 140737488355328) :
 PureSpec Tryz.prog 244 [h.v l.length, .int .i64 x] (fun w => RowAt w h.a (l.map intV)) (fun v F => v = .int .i64 (fint (l.findIdx? fun y => x == y))) := by
 refine PureSpec.of_xc tabOk Tryz.func244 rfl (by decide) (n := Tryz.f244.ntmps - 2) rfl rfl fun w0 av => ?_
 conv => whnf
 refine XStop.loop tabOk (ι := Nat) ([5] ++ List.range' 8 11) (fun k => k ≤ l.length ∧ ∀ j (hj : j < l.length), j < k → (x == l[j]) = false)
  (fun x => [(8, .v (.int .i64 (x : Int)))]) (fun _ => []) (fun _ => ⟨fun w => RowAt w h.a (l.map intV), []⟩)
  (fun x => l.length - x) 0 ⟨Nat.zero_le _, fun j hj h => by omega⟩ ?_ rfl (Ent.refl _) fun i hi => ?_
 · conv => whnf
   repeat (first | exact FLe.nil | refine FLe.any ?_ | refine FLe.cons ?_)
 obtain ⟨hi, hall⟩ := hi
 conv => whnf
 refine XIf.split (fun hlt => ?_) (fun hlt => ?_)
 · have hlt' : i < l.length := by
    simp only [iLt_eq, decide_eq_true_eq] at hlt
    omega
   conv => whnf
   repeat (first | (refine XSame.of ?_; conv => whnf) | (refine XDep.all _ _ _ _ ?_; conv => whnf))
   refine XVal.of_read (XRead.index tabOk (t := 115) rfl rfl rfl (by omega) (by omega) hh.nil fun ad had => ?_)
   conv => whnf
   repeat (first | (refine XSame.of ?_; conv => whnf) | (refine XDep.all _ _ _ _ ?_; conv => whnf))
   refine XVal.of_read (XRead.loadF tabOk (t := 3) rfl rfl (ad := ad) (k := i) (L := l.map intV) (v := intV l[i]) (.fact fun w hw => had ▸ hw) (fun hs => by rw [Nat.mul_one]; rfl) (by rw [List.getElem?_map, List.getElem?_eq_getElem hlt']; rfl) ?_)
   conv => whnf
   repeat (first | (refine XSame.of ?_; conv => whnf) | (refine XDep.all _ _ _ _ ?_; conv => whnf))
   rw [iEq_eq]
   generalize hq : (x == l[i]) = q
   cases q
   · conv => whnf
     repeat (first | (refine XSame.of ?_; conv => whnf) | (refine XDep.all _ _ _ _ ?_; conv => whnf))
     refine ⟨i + 1, ⟨⟨hlt', fun j hj h => ?_⟩, by dsimp only; omega⟩, ?_, ?_, Ent.refl _⟩
     · rcases Nat.lt_or_eq_of_le (Nat.lt_succ_iff.1 h) with h5 | h5
       · exact hall j hj h5
       · subst h5
         exact hq
     · conv => whnf
       refine ⟨?_, rfl⟩
       repeat (first | exact FLe.nil | refine FLe.any ?_ | refine FLe.cons ?_ | refine FLe.eq (by rw [wrap_i64 (by omega)]; rfl) ?_)
     · conv => whnf
       exact trivial
   · conv => whnf
     repeat (first | (refine XSame.of ?_; conv => whnf) | (refine XDep.all _ _ _ _ ?_; conv => whnf))
     refine ⟨_, Ent.refl _, ?_⟩
     have : (l.findIdx? fun y => x == y) = some i := by
      rw [List.findIdx?_eq_some_iff_getElem]
      exact ⟨hlt', hq, fun j hj => by simpa using hall j (by omega) hj⟩
     rw [this]
     rfl
 · have hie : i = l.length := by
    simp only [iLt_eq, decide_eq_false_iff_not] at hlt
    omega
   subst hie
   conv => whnf
   repeat (first | (refine XSame.of ?_; conv => whnf) | (refine XDep.all _ _ _ _ ?_; conv => whnf))
   refine ⟨_, Ent.refl _, ?_⟩
   have : (l.findIdx? fun y => x == y) = none := by
    rw [List.findIdx?_eq_none_iff]
    intro y hy
    obtain ⟨j, hj, rfl⟩ := List.getElem_of_mem hy
    simpa using hall j hj hj
   rw [this]
   rfl

theorem hasQ_spec (x : Int) (l : List Int) (h : Hd) (hh : h.Ok l.length) (hl : l.length ≤ 140737488355328) :
 PureSpec Tryz.prog 173 [h.v l.length, .int .i64 x] (fun w => RowAt w h.a (l.map intV)) (fun v F => v = .bool (l.any fun y => x == y)) := by
 have hi := indexQ_spec x l h hh hl
 have hv := fint_any l fun y => x == y
 generalize fint (l.findIdx? fun y => x == y) = j at *
 refine PureSpec.of_xc tabOk Tryz.func173 rfl (by decide) (n := Tryz.f173.ntmps - 2) rfl rfl fun w0 av => ?_
 conv => whnf
 repeat (first | (refine XSame.of ?_; conv => whnf) | (refine XDep.all _ _ _ _ ?_; conv => whnf))
 refine XCall.val hi (fun w hw => hw) (fun v D hv => ?_)
 subst hv
 conv => whnf
 repeat (first | (refine XSame.of ?_; conv => whnf) | (refine XDep.all _ _ _ _ ?_; conv => whnf))
 exact ⟨_, Ent.refl _, by rw [← hv, iGe_eq]⟩

end Go.Proofs.YtajkcdplmkaipaaGreatDoor
namespace Go.Proofs.YtajkcdplmkaipaaGreatDoor
open Go Go.Sx
set_option maxRecDepth 100000
set_option maxHeartbeats 4000000
set_option linter.unusedVariables false
set_option linter.unusedSimpArgs false

end Go.Proofs.YtajkcdplmkaipaaGreatDoor
namespace Go.Proofs.YtajkcdplmkaipaaGreatDoor
open Go Go.Sx
set_option maxRecDepth 100000
set_option maxHeartbeats 4000000
set_option linter.unusedVariables false
set_option linter.unusedSimpArgs false

end Go.Proofs.YtajkcdplmkaipaaGreatDoor
namespace Go.Proofs.YtajkcdplmkaipaaGreatDoor
open Go Go.Sx
set_option maxRecDepth 100000
set_option maxHeartbeats 4000000
set_option linter.unusedVariables false
set_option linter.unusedSimpArgs false

structure Chn where
 opn : Bool
 tag : Int
 op : Int
 place : Int
 ch : Hd
 cn : Nat
 left : Int
 ltag : Int
 lans : Int
 lh : Hd
 ln : Nat

instance : Inhabited Chn := ⟨⟨false, 0, 0, 0, Hd.nil, 0, 0, 0, 0, Hd.nil, 0⟩⟩

def dchC (x : Chn) : List Value := [.bool x.opn, .int .i64 x.tag, .int .i64 x.op, .int .i64 x.place, x.ch.v x.cn, .int .i64 x.left, .int .i64 x.ltag, .int .i64 x.lans, x.lh.v x.ln]
def lchC (x : Chn) : List Value := [.bool x.opn, .int .i64 x.tag, .int .i64 x.op, .int .i64 x.place, x.ch.v x.cn, .int .i64 x.ltag, .int .i64 x.lans, x.lh.v x.ln]

end Go.Proofs.YtajkcdplmkaipaaGreatDoor
namespace Go.Proofs.YtajkcdplmkaipaaGreatDoor
open Go Go.Sx
set_option maxRecDepth 100000
set_option maxHeartbeats 4000000
set_option linter.unusedVariables false
set_option linter.unusedSimpArgs false

/-- A byte string of which only the length counts. -/
structure Bs where
 h : Hd
 n : Nat

instance : Inhabited Bs := ⟨⟨Hd.nil, 0⟩⟩

def bsV (x : Bs) : Value := x.h.v x.n

end Go.Proofs.YtajkcdplmkaipaaGreatDoor
namespace Go.Proofs.YtajkcdplmkaipaaGreatDoor
open Go Go.Sx
set_option maxRecDepth 100000
set_option maxHeartbeats 4000000
set_option linter.unusedVariables false
set_option linter.unusedSimpArgs false

structure Ser where
 inp : Bs
 at' : Int
 pause : Int
 got : Bs
 out : Bs
 co : Chn
 ci : Chn

instance : Inhabited Ser := ⟨⟨default, 0, 0, default, default, default, default⟩⟩

def serC (x : Ser) : List Value := bsV x.inp :: .int .i64 x.at' :: .int .i64 x.pause :: bsV x.got :: bsV x.out :: (lchC x.co ++ lchC x.ci)

structure Fli where
 due : Int
 data : Bs

instance : Inhabited Fli := ⟨⟨0, default⟩⟩

def fliC (x : Fli) : List Value := [.int .i64 x.due, bsV x.data]

structure Lnk where
 pat : Bs
 now : Int
 sent : Int
 first : Int
 fh : Hd
 fly : List Fli
 wh : Hd
 wait : List Bs
 co : Chn
 ci : Chn

def lnkC (x : Lnk) : List Value := bsV x.pat :: .int .i64 x.now :: .int .i64 x.sent :: .int .i64 x.first :: x.fh.v x.fly.length :: x.wh.v x.wait.length :: (lchC x.co ++ lchC x.ci)

end Go.Proofs.YtajkcdplmkaipaaGreatDoor
namespace Go.Proofs.YtajkcdplmkaipaaGreatDoor
open Go Go.Sx
set_option maxRecDepth 100000
set_option maxHeartbeats 4000000
set_option linter.unusedVariables false
set_option linter.unusedSimpArgs false

end Go.Proofs.YtajkcdplmkaipaaGreatDoor
namespace Go.Proofs.YtajkcdplmkaipaaGreatDoor
open Go Go.Sx
set_option maxRecDepth 100000
set_option maxHeartbeats 4000000
set_option linter.unusedVariables false
set_option linter.unusedSimpArgs false

structure Win where
 dev : Int
 tag : Int
 frame : Int
 w : Bool
 deriving Inhabited
def winC (x : Win) : List Value := [.int .i64 x.dev, .int .i64 x.tag, .int .i64 x.frame, .bool x.w]

end Go.Proofs.YtajkcdplmkaipaaGreatDoor
namespace Go.Proofs.YtajkcdplmkaipaaGreatDoor
open Go Go.Sx
set_option maxRecDepth 100000
set_option maxHeartbeats 4000000
set_option linter.unusedVariables false
set_option linter.unusedSimpArgs false

def quOk (l : List Int) (j : Nat) : Bool := decide (1 ≤ l[j]! ∧ l[j]! < 32) && !((l.take j).any fun y => l[j]! == y)

theorem schedValid_spec (l : List Int) (h : Hd) (hh : h.Ok l.length) (hl : l.length ≤ 140737488355328) :
 PureSpec Tryz.prog 112 [h.v l.length] (fun w => RowAt w h.a (l.map intV)) (fun v F => v = .bool (allI l.length (quOk l))) := by
 refine PureSpec.of_xc tabOk Tryz.func112 rfl (by decide) (n := Tryz.f112.ntmps - 1) rfl rfl fun w0 av => ?_
 conv => whnf
 repeat (first | (refine XSame.of ?_; conv => whnf) | (refine XDep.all _ _ _ _ ?_; conv => whnf))
 refine XStop.loop tabOk (ι := Nat) ([3, 4] ++ List.range' 7 20) (fun x => x ≤ l.length ∧ ∀ j, j < x → quOk l j = true)
  (fun x => [(7, .v (.int .i64 (x : Int)))]) (fun _ => []) (fun _ => ⟨fun w => RowAt w h.a (l.map intV), []⟩)
  (fun x => l.length - x) 0 ⟨Nat.zero_le _, fun j h => by omega⟩ ?_ rfl (Ent.refl _) fun i hi => ?_
 · conv => whnf
   repeat (first | exact FLe.nil | refine FLe.any ?_ | refine FLe.cons ?_)
 obtain ⟨hi, hall⟩ := hi
 conv => whnf
 repeat (first | (refine XSame.of ?_; conv => whnf) | (refine XDep.all _ _ _ _ ?_; conv => whnf))
 refine XIf.split (fun hlt => ?_) (fun hlt => ?_)
 · have hlt' : i < l.length := by
    simp only [iLt_eq, decide_eq_true_eq] at hlt
    omega
   have hok : quOk l i = (decide (1 ≤ l[i] ∧ l[i] < 32) && !((l.take i).any fun y => l[i] == y)) := by
    unfold quOk
    rw [bang hlt']
   have hnext : quOk l i = true → ∀ j, j < i + 1 → quOk l j = true := fun hs j hj => by
    rcases Nat.lt_or_eq_of_le (Nat.lt_succ_iff.1 hj) with h5 | h5
    · exact hall j h5
    · exact h5 ▸ hs
   have hq2 := hasQ_spec l[i] (l.take i) h (by rw [List.length_take, Nat.min_eq_left hi]; exact hh.less hi) (by rw [List.length_take]; omega)
   rw [List.length_take, Nat.min_eq_left hi] at hq2
   obtain ⟨q2, heq2⟩ : ∃ q, q = (l.take i).any fun y => l[i] == y := ⟨_, rfl⟩
   rw [← heq2] at hq2
   conv => whnf
   repeat (first | (refine XSame.of ?_; conv => whnf) | (refine XDep.all _ _ _ _ ?_; conv => whnf))
   refine XVal.of_read (XRead.index tabOk (t := 115) rfl rfl rfl (by omega) (by omega) hh.nil fun ad had => ?_)
   conv => whnf
   repeat (first | (refine XSame.of ?_; conv => whnf) | (refine XDep.all _ _ _ _ ?_; conv => whnf))
   refine XVal.of_read (XRead.loadF tabOk (t := 3) rfl rfl (ad := ad) (k := i) (L := l.map intV) (v := intV l[i]) (.fact fun w hw => had ▸ hw) (fun hs => by rw [Nat.mul_one]; rfl) (by rw [List.getElem?_map, List.getElem?_eq_getElem hlt']; rfl) ?_)
   conv => whnf
   repeat (first | (refine XSame.of ?_; conv => whnf) | (refine XDep.all _ _ _ _ ?_; conv => whnf))
   repeat' (first
    | (refine And.intro ?_ ?_ <;> conv => whnf)
    | (refine XHeld.same rfl ?_; conv => whnf)
    | (refine XHeld.row rfl ?_; conv => whnf)
    | (refine XHeld.call rfl ?_; conv => whnf)
    | (refine XHeld.factCall rfl ?_; conv => whnf)
    | (refine XKeep.of ?_; conv => whnf)
    | (refine XSame.of ?_; conv => whnf)
    | (refine XDep.all _ _ _ _ ?_; conv => whnf)
    | (refine XVal.of_read (XRead.subTo tabOk (t := 115) rfl rfl rfl i rfl (by have := hh.cap; omega) ?_); conv => whnf)
    | (refine XCall.val hq2 (fun w hw => by have h2 := RowAt.take hw i; rw [← List.map_take] at h2; exact h2) (fun v D hv => ?_); subst hv; conv => whnf)
    | (split <;> conv => whnf)
    | (refine XHeld.mk ?_ ?_; (focus (first | exact Ent.refl _ | exact Ent.left _ _ | exact Ent.of_le ⟨List.sublist_append_left _ _, fun w h => h⟩ | exact Ent.of_le ⟨List.Sublist.refl _, fun w h => h.1⟩)); conv => whnf))
   all_goals first
    | (refine ⟨_, Ent.refl _, ?_⟩; rw [allI_false hlt' (by rw [hok]; ((try subst heq1); (try subst heq2); (try subst heq3); simp only [cond_true, cond_false, iLt_eq, iLe_eq, iGt_eq, iGe_eq, iEq_eq, iNe_eq, decide_eq_true_eq, decide_eq_false_iff_not, beq_iff_eq, bne_iff_ne, ne_eq, beq_eq_false_iff_ne, bne_eq_false_iff_eq, Bool.not_eq_true, Bool.not_eq_false, Bool.and_true, Bool.true_and, Bool.and_false, Bool.false_and, Bool.or_true, Bool.or_false, Bool.true_or, Bool.false_or, Bool.not_eq_true', Bool.not_eq_false', Bool.not_true, Bool.not_false] at *; first | omega | (simp_all; done) | (simp_all; omega)))]; first | done | rfl)
    | (
     refine ⟨i + 1, ⟨⟨hlt', hnext (by rw [hok]; ((try subst heq1); (try subst heq2); (try subst heq3); simp only [cond_true, cond_false, iLt_eq, iLe_eq, iGt_eq, iGe_eq, iEq_eq, iNe_eq, decide_eq_true_eq, decide_eq_false_iff_not, beq_iff_eq, bne_iff_ne, ne_eq, beq_eq_false_iff_ne, bne_eq_false_iff_eq, Bool.not_eq_true, Bool.not_eq_false, Bool.and_true, Bool.true_and, Bool.and_false, Bool.false_and, Bool.or_true, Bool.or_false, Bool.true_or, Bool.false_or, Bool.not_eq_true', Bool.not_eq_false', Bool.not_true, Bool.not_false] at *; first | omega | (simp_all; done) | (simp_all; omega)))⟩, by dsimp only; omega⟩, ?_, ?_, Ent.refl _⟩; (conv => whnf); refine ⟨?_, rfl⟩; repeat (first | exact FLe.nil | refine FLe.any ?_ | refine FLe.cons ?_ | refine FLe.eq (by rw [wrap_i64 (by omega)]; rfl) ?_)
     (conv => whnf); exact trivial)
 · have hie : i = l.length := by
    simp only [iLt_eq, decide_eq_false_iff_not] at hlt
    omega
   subst hie
   conv => whnf
   repeat (first | (refine XSame.of ?_; conv => whnf) | (refine XDep.all _ _ _ _ ?_; conv => whnf))
   exact ⟨_, Ent.refl _, by rw [allI_true hall]⟩

end Go.Proofs.YtajkcdplmkaipaaGreatDoor
namespace Go.Proofs.YtajkcdplmkaipaaGreatDoor
open Go Go.Sx
set_option maxRecDepth 100000
set_option maxHeartbeats 4000000
set_option linter.unusedVariables false
set_option linter.unusedSimpArgs false

structure Lin where
 dev : Int
 tag : Int
 ans : Int
 data : Bs
instance : Inhabited Lin := ⟨⟨0, 0, 0, default⟩⟩
def linC (x : Lin) : List Value := [.int .i64 x.dev, .int .i64 x.tag, .int .i64 x.ans, bsV x.data]

end Go.Proofs.YtajkcdplmkaipaaGreatDoor
