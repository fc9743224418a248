/- Parts of the proof: Tab, NzA, AaA, AaB, AaC, AaD, AaE, AaF, AaG, AaH, AaI, AaJ, AaK, AaL, AaM, AaN, AaO, AaP, AaQ. -/
import Derived.Test.YtakammghcodmgaaGreatDoorQA
import Derived.Test.YtakammghcodmgaaGreatDoorProg
import Derived.KernelRfl
import Derived.Test.YtakammghcodmgaaGreatDoorQC
namespace Go.Proofs.YtakammghcodmgaaGreatDoor
open Go Go.Sx

abbrev Z0 : Value := .int .i64 0
abbrev ZF : Value := .bool false
abbrev ZS : Value := .slice none 0 0
abbrev zero34 : List Value :=
 [ZS, Z0, Z0, ZS, ZS, ZF, Z0, Z0, Z0, ZS, Z0, Z0, Z0, ZS, ZF, Z0, Z0, Z0, ZS, Z0, Z0, Z0, ZS]
abbrev zero35 : List Value :=
 [ZS, Z0, Z0, ZS, ZS, ZF, Z0, Z0, Z0, ZS, Z0, Z0, Z0, ZS, ZF, Z0, Z0, Z0, ZS, Z0, Z0, Z0, ZS]
abbrev zero79 : List Value :=
 [ZS, Z0, Z0, ZS, ZS, ZF, Z0, Z0, Z0, ZS, Z0, Z0, ZS, ZF, Z0, Z0, Z0, ZS, Z0, Z0, ZS]
abbrev zero80 : List Value :=
 [ZS, Z0, Z0, ZS, ZS, ZF, Z0, Z0, Z0, ZS, Z0, Z0, ZS, ZF, Z0, Z0, Z0, ZS, Z0, Z0, ZS]
abbrev zero88 : List Value :=
 [ZS, Z0, Z0, Z0, ZS, ZS, ZF, Z0, Z0, Z0, ZS, Z0, Z0, ZS, ZF, Z0, Z0, Z0, ZS, Z0, Z0, ZS]
abbrev zero89 : List Value :=
 [ZS, Z0, Z0, Z0, ZS, ZS, ZF, Z0, Z0, Z0, ZS, Z0, Z0, ZS, ZF, Z0, Z0, Z0, ZS, Z0, Z0, ZS]
abbrev zero106 : List Value :=
 [Z0, Z0, Z0, ZF, ZF, ZF, Z0, ZS, Z0, Z0, Z0, ZF, ZF, ZF, Z0, ZS, Z0, Z0, Z0, ZF, ZF, ZF, Z0, ZS, Z0, Z0, Z0, ZF, ZF, ZF, Z0, ZS, Z0, Z0, Z0, ZF, ZF, ZF, Z0, ZS, Z0, Z0, Z0, ZF, ZF, ZF, Z0, ZS, Z0, Z0, Z0, ZF, ZF, ZF, Z0, ZS, Z0, Z0, Z0, ZF, ZF, ZF, Z0, ZS, Z0, Z0, Z0, ZF, ZF, ZF, Z0, ZS, Z0, Z0, Z0, ZF, ZF, ZF, Z0, ZS, Z0, Z0, Z0, ZF, ZF, ZF, Z0, ZS, Z0, Z0, Z0, ZF, ZF, ZF, Z0, ZS, Z0, Z0, Z0, ZF, ZF, ZF, Z0, ZS, Z0, Z0, Z0, ZF, ZF, ZF, Z0, ZS, Z0, Z0, Z0, ZF, ZF, ZF, Z0, ZS, Z0, Z0, Z0, ZF, ZF, ZF, Z0, ZS, Z0, Z0, Z0, ZF, ZF, ZF, Z0, ZS, Z0, Z0, Z0, ZF, ZF, ZF, Z0, ZS, Z0, Z0, Z0, ZF, ZF, ZF, Z0, ZS, Z0, Z0, Z0, ZF, ZF, ZF, Z0, ZS, Z0, Z0, Z0, ZF, ZF, ZF, Z0, ZS, Z0, Z0, Z0, ZF, ZF, ZF, Z0, ZS, Z0, Z0, Z0, ZF, ZF, ZF, Z0, ZS, Z0, Z0, Z0, ZF, ZF, ZF, Z0, ZS, Z0, Z0, Z0, ZF, ZF, ZF, Z0, ZS, Z0, Z0, Z0, ZF, ZF, ZF, Z0, ZS, Z0, Z0, Z0, ZF, ZF, ZF, Z0, ZS, Z0, Z0, Z0, ZF, ZF, ZF, Z0, ZS, Z0, Z0, Z0, ZF, ZF, ZF, Z0, ZS, Z0, Z0, Z0, ZF, ZF, ZF, Z0, ZS, Z0, Z0, Z0, ZF, ZF, ZF, Z0, ZS, Z0, Z0, Z0, ZF, ZF, ZF, Z0, ZS]
abbrev zero118 : List Value :=
 [ZS, ZS, ZS, ZS, ZS, ZS, ZS, ZS, ZS, ZS, ZS, ZS, ZS, ZS, ZS, ZS, ZS, ZS, ZS, ZS, ZS, ZS, ZS, ZS, ZS, ZS, ZS, ZS, ZS, ZS, ZS, ZS]
abbrev zero131 : List Value :=
 [Z0, Z0, Z0, ZF, ZF, ZF, Z0, ZS, Z0, Z0, Z0, ZF, ZF, ZF, Z0, ZS, Z0, Z0, Z0, ZF, ZF, ZF, Z0, ZS, Z0, Z0, Z0, ZF, ZF, ZF, Z0, ZS, Z0, Z0, Z0, ZF, ZF, ZF, Z0, ZS, Z0, Z0, Z0, ZF, ZF, ZF, Z0, ZS, Z0, Z0, Z0, ZF, ZF, ZF, Z0, ZS, Z0, Z0, Z0, ZF, ZF, ZF, Z0, ZS, Z0, Z0, Z0, ZF, ZF, ZF, Z0, ZS, Z0, Z0, Z0, ZF, ZF, ZF, Z0, ZS, Z0, Z0, Z0, ZF, ZF, ZF, Z0, ZS, Z0, Z0, Z0, ZF, ZF, ZF, Z0, ZS, Z0, Z0, Z0, ZF, ZF, ZF, Z0, ZS, Z0, Z0, Z0, ZF, ZF, ZF, Z0, ZS, Z0, Z0, Z0, ZF, ZF, ZF, Z0, ZS, Z0, Z0, Z0, ZF, ZF, ZF, Z0, ZS, Z0, Z0, Z0, ZF, ZF, ZF, Z0, ZS, Z0, Z0, Z0, ZF, ZF, ZF, Z0, ZS, Z0, Z0, Z0, ZF, ZF, ZF, Z0, ZS, Z0, Z0, Z0, ZF, ZF, ZF, Z0, ZS, Z0, Z0, Z0, ZF, ZF, ZF, Z0, ZS, Z0, Z0, Z0, ZF, ZF, ZF, Z0, ZS, Z0, Z0, Z0, ZF, ZF, ZF, Z0, ZS, Z0, Z0, Z0, ZF, ZF, ZF, Z0, ZS, Z0, Z0, Z0, ZF, ZF, ZF, Z0, ZS, Z0, Z0, Z0, ZF, ZF, ZF, Z0, ZS, Z0, Z0, Z0, ZF, ZF, ZF, Z0, ZS, Z0, Z0, Z0, ZF, ZF, ZF, Z0, ZS, Z0, Z0, Z0, ZF, ZF, ZF, Z0, ZS, Z0, Z0, Z0, ZF, ZF, ZF, Z0, ZS, Z0, Z0, Z0, ZF, ZF, ZF, Z0, ZS, Z0, Z0, Z0, ZF, ZF, ZF, Z0, ZS, ZF, ZF, ZF, ZF, ZF, ZF, ZF, ZF, ZF, ZF, ZF, ZS, ZS, Z0, ZS, ZS, ZS, ZS, ZS, ZS, ZS, ZS, ZS, ZS, ZS, ZS, ZS, ZS, ZS, ZS, ZS, ZS, ZS, ZS, ZS, ZS, ZS, ZS, ZS, ZS, ZS, ZS, ZS, ZS, ZS, ZS, ZS, ZS, ZS, ZS, ZS, ZS, ZS, ZF, Z0, Z0, Z0, ZS, Z0, Z0, Z0, ZS, Z0, Z0, ZF, ZF, ZS, Z0, Z0, Z0, ZS, ZS, ZF, Z0, Z0, Z0, ZS, Z0, Z0, ZS, ZF, Z0, Z0, Z0, ZS, Z0, Z0, ZS, ZS, Z0, Z0, ZS, ZS, ZF, Z0, Z0, Z0, ZS, Z0, Z0, ZS, ZF, Z0, Z0, Z0, ZS, Z0, Z0, ZS, Z0, ZS, ZF, ZF, ZF, ZF, ZF, ZS, ZS, ZS, ZS]
abbrev zero132 : List Value :=
 [Z0, Z0, Z0, ZF, ZF, ZF, Z0, ZS, Z0, Z0, Z0, ZF, ZF, ZF, Z0, ZS, Z0, Z0, Z0, ZF, ZF, ZF, Z0, ZS, Z0, Z0, Z0, ZF, ZF, ZF, Z0, ZS, Z0, Z0, Z0, ZF, ZF, ZF, Z0, ZS, Z0, Z0, Z0, ZF, ZF, ZF, Z0, ZS, Z0, Z0, Z0, ZF, ZF, ZF, Z0, ZS, Z0, Z0, Z0, ZF, ZF, ZF, Z0, ZS, Z0, Z0, Z0, ZF, ZF, ZF, Z0, ZS, Z0, Z0, Z0, ZF, ZF, ZF, Z0, ZS, Z0, Z0, Z0, ZF, ZF, ZF, Z0, ZS, Z0, Z0, Z0, ZF, ZF, ZF, Z0, ZS, Z0, Z0, Z0, ZF, ZF, ZF, Z0, ZS, Z0, Z0, Z0, ZF, ZF, ZF, Z0, ZS, Z0, Z0, Z0, ZF, ZF, ZF, Z0, ZS, Z0, Z0, Z0, ZF, ZF, ZF, Z0, ZS, Z0, Z0, Z0, ZF, ZF, ZF, Z0, ZS, Z0, Z0, Z0, ZF, ZF, ZF, Z0, ZS, Z0, Z0, Z0, ZF, ZF, ZF, Z0, ZS, Z0, Z0, Z0, ZF, ZF, ZF, Z0, ZS, Z0, Z0, Z0, ZF, ZF, ZF, Z0, ZS, Z0, Z0, Z0, ZF, ZF, ZF, Z0, ZS, Z0, Z0, Z0, ZF, ZF, ZF, Z0, ZS, Z0, Z0, Z0, ZF, ZF, ZF, Z0, ZS, Z0, Z0, Z0, ZF, ZF, ZF, Z0, ZS, Z0, Z0, Z0, ZF, ZF, ZF, Z0, ZS, Z0, Z0, Z0, ZF, ZF, ZF, Z0, ZS, Z0, Z0, Z0, ZF, ZF, ZF, Z0, ZS, Z0, Z0, Z0, ZF, ZF, ZF, Z0, ZS, Z0, Z0, Z0, ZF, ZF, ZF, Z0, ZS, Z0, Z0, Z0, ZF, ZF, ZF, Z0, ZS, Z0, Z0, Z0, ZF, ZF, ZF, Z0, ZS, ZF, ZF, ZF, ZF, ZF, ZF, ZF, ZF, ZF, ZF, ZF, ZS, ZS, Z0, ZS, ZS, ZS, ZS, ZS, ZS, ZS, ZS, ZS, ZS, ZS, ZS, ZS, ZS, ZS, ZS, ZS, ZS, ZS, ZS, ZS, ZS, ZS, ZS, ZS, ZS, ZS, ZS, ZS, ZS, ZS, ZS, ZS, ZS, ZS, ZS, ZS, ZS, ZS, ZF, Z0, Z0, Z0, ZS, Z0, Z0, Z0, ZS, Z0, Z0, ZF, ZF, ZS, Z0, Z0, Z0, ZS, ZS, ZF, Z0, Z0, Z0, ZS, Z0, Z0, ZS, ZF, Z0, Z0, Z0, ZS, Z0, Z0, ZS, ZS, Z0, Z0, ZS, ZS, ZF, Z0, Z0, Z0, ZS, Z0, Z0, ZS, ZF, Z0, Z0, Z0, ZS, Z0, Z0, ZS, Z0, ZS, ZF, ZF, ZF, ZF, ZF, ZS, ZS, ZS, ZS]
abbrev zero380 : List Value :=
 [Z0, Z0, .string ⟨#[]⟩, Z0, Z0, Z0, .string ⟨#[]⟩, Z0, Z0, Z0, .string ⟨#[]⟩, Z0, Z0, Z0, .string ⟨#[]⟩, Z0, Z0, Z0, .string ⟨#[]⟩, Z0, Z0, Z0, .string ⟨#[]⟩, Z0, Z0, Z0, .string ⟨#[]⟩, Z0, Z0, Z0, .string ⟨#[]⟩, Z0, Z0, Z0, .string ⟨#[]⟩, Z0, Z0, Z0, .string ⟨#[]⟩, Z0, Z0, Z0, .string ⟨#[]⟩, Z0, Z0, Z0, .string ⟨#[]⟩, Z0, Z0, Z0, .string ⟨#[]⟩, Z0, Z0, Z0, .string ⟨#[]⟩, Z0, Z0, Z0, .string ⟨#[]⟩, Z0, Z0, Z0, .string ⟨#[]⟩, Z0, Z0, Z0, .string ⟨#[]⟩, Z0, Z0, Z0, .string ⟨#[]⟩, Z0, Z0, Z0, .string ⟨#[]⟩, Z0, Z0, Z0, .string ⟨#[]⟩, Z0, Z0, Z0, .string ⟨#[]⟩, Z0, Z0, Z0, .string ⟨#[]⟩, Z0, Z0, Z0, .string ⟨#[]⟩, Z0, Z0, Z0, .string ⟨#[]⟩, Z0, Z0, Z0, .string ⟨#[]⟩, Z0, Z0, Z0, .string ⟨#[]⟩, Z0, Z0, Z0, .string ⟨#[]⟩, Z0, Z0, Z0, .string ⟨#[]⟩, Z0]
set_option maxHeartbeats 4000000 in
set_option maxRecDepth 100000 in
def tab : Tab :=
 [(2, ⟨.int .i64, 1, [.int .i64 0], [], 8⟩),
  (3, ⟨.int .i64, 1, [.int .i64 0], [], 8⟩),
  (4, ⟨.bool, 1, [.bool false], [], 1⟩),
  (5, ⟨.int .u8, 1, [.int .u8 0], [], 1⟩),
  (9, ⟨.str, 1, [.string ⟨#[]⟩], [], 16⟩),
  (12, ⟨.int .u64, 1, [.int .u64 0], [], 8⟩),
  (13, ⟨.struct, 2, [.string ⟨#[]⟩, .int .u64 0], [(0, 1, false), (1, 1, false)], 24⟩),
  (21, ⟨.int .i32, 1, [.int .i32 0], [], 4⟩),
  (22, ⟨.slice 5, 1, [.slice none 0 0], [], 24⟩),
  (23, ⟨.struct, 3, [.slice none 0 0, .slice none 0 0, .slice none 0 0], [(0, 1, false), (1, 1, false), (2, 1, false)], 72⟩),
  (24, ⟨.struct, 3, [.slice none 0 0, .slice none 0 0, .slice none 0 0], [(0, 1, false), (1, 1, false), (2, 1, false)], 72⟩),
  (26, ⟨.ptr 134, 1, [.pointer none], [], 8⟩),
  (28, ⟨.struct, 4, [.int .i64 0, .int .i64 0, .int .i64 0, .slice none 0 0], [(0, 1, false), (1, 1, false), (2, 1, false), (3, 1, false)], 48⟩),
  (29, ⟨.struct, 4, [.int .i64 0, .int .i64 0, .int .i64 0, .slice none 0 0], [(0, 1, false), (1, 1, false), (2, 1, false), (3, 1, false)], 48⟩),
  (30, ⟨.struct, 3, [.int .i64 0, .int .i64 0, .slice none 0 0], [(0, 1, false), (1, 1, false), (2, 1, false)], 40⟩),
  (31, ⟨.struct, 3, [.int .i64 0, .int .i64 0, .slice none 0 0], [(0, 1, false), (1, 1, false), (2, 1, false)], 40⟩),
  (32, ⟨.struct, 9, [.bool false, .int .i64 0, .int .i64 0, .int .i64 0, .slice none 0 0, .int .i64 0, .int .i64 0, .int .i64 0, .slice none 0 0], [(0, 1, false), (1, 4, true), (5, 1, false), (6, 3, true)], 104⟩),
  (33, ⟨.struct, 9, [.bool false, .int .i64 0, .int .i64 0, .int .i64 0, .slice none 0 0, .int .i64 0, .int .i64 0, .int .i64 0, .slice none 0 0], [(0, 1, false), (1, 4, true), (5, 1, false), (6, 3, true)], 104⟩),
  (34, ⟨.struct, 23, zero34, [(0, 1, false), (1, 1, false), (2, 1, false), (3, 1, false), (4, 1, false), (5, 9, true), (14, 9, true)], 296⟩),
  (35, ⟨.struct, 23, zero35, [(0, 1, false), (1, 1, false), (2, 1, false), (3, 1, false), (4, 1, false), (5, 9, true), (14, 9, true)], 296⟩),
  (36, ⟨.int .i64, 1, [.int .i64 0], [], 8⟩),
  (39, ⟨.slice 31, 1, [.slice none 0 0], [], 24⟩),
  (42, ⟨.slice 50, 1, [.slice none 0 0], [], 24⟩),
  (46, ⟨.slice 163, 1, [.slice none 0 0], [], 24⟩),
  (48, ⟨.arr 3 3, 3, [.int .i64 0, .int .i64 0, .int .i64 0], [], 24⟩),
  (49, ⟨.struct, 8, [.int .i64 0, .int .i64 0, .int .i64 0, .int .i64 0, .int .i64 0, .int .i64 0, .int .i64 0, .slice none 0 0], [(0, 1, false), (1, 1, false), (2, 1, false), (3, 3, true), (6, 1, false), (7, 1, false)], 80⟩),
  (50, ⟨.struct, 8, [.int .i64 0, .int .i64 0, .int .i64 0, .int .i64 0, .int .i64 0, .int .i64 0, .int .i64 0, .slice none 0 0], [(0, 1, false), (1, 1, false), (2, 1, false), (3, 3, true), (6, 1, false), (7, 1, false)], 80⟩),
  (51, ⟨.arr 4 3, 4, [.int .i64 0, .int .i64 0, .int .i64 0, .int .i64 0], [], 32⟩),
  (52, ⟨.struct, 9, [.int .i64 0, .int .i64 0, .int .i64 0, .int .i64 0, .int .i64 0, .int .i64 0, .int .i64 0, .int .i64 0, .slice none 0 0], [(0, 1, false), (1, 1, false), (2, 1, false), (3, 1, false), (4, 4, true), (8, 1, false)], 88⟩),
  (53, ⟨.struct, 9, [.int .i64 0, .int .i64 0, .int .i64 0, .int .i64 0, .int .i64 0, .int .i64 0, .int .i64 0, .int .i64 0, .slice none 0 0], [(0, 1, false), (1, 1, false), (2, 1, false), (3, 1, false), (4, 4, true), (8, 1, false)], 88⟩),
  (61, ⟨.struct, 15, [.int .i64 0, .int .i64 0, .int .i64 0, .int .i64 0, .int .i64 0, .int .i64 0, .int .i64 0, .int .i64 0, .int .i64 0, .int .i64 0, .int .i64 0, .int .i64 0, .int .i64 0, .slice none 0 0, .slice none 0 0], [(0, 1, false), (1, 4, true), (5, 9, true), (14, 1, false)], 152⟩),
  (62, ⟨.struct, 15, [.int .i64 0, .int .i64 0, .int .i64 0, .int .i64 0, .int .i64 0, .int .i64 0, .int .i64 0, .int .i64 0, .int .i64 0, .int .i64 0, .int .i64 0, .int .i64 0, .int .i64 0, .slice none 0 0, .slice none 0 0], [(0, 1, false), (1, 4, true), (5, 9, true), (14, 1, false)], 152⟩),
  (63, ⟨.slice 62, 1, [.slice none 0 0], [], 24⟩),
  (66, ⟨.slice 22, 1, [.slice none 0 0], [], 24⟩),
  (67, ⟨.struct, 4, [.int .i64 0, .int .i64 0, .int .i64 0, .slice none 0 0], [(0, 1, false), (1, 1, false), (2, 1, false), (3, 1, false)], 48⟩),
  (68, ⟨.struct, 3, [.int .i64 0, .int .i64 0, .slice none 0 0], [(0, 1, false), (1, 1, false), (2, 1, false)], 40⟩),
  (69, ⟨.struct, 9, [.bool false, .int .i64 0, .int .i64 0, .int .i64 0, .slice none 0 0, .int .i64 0, .int .i64 0, .int .i64 0, .slice none 0 0], [(0, 1, false), (1, 4, true), (5, 1, false), (6, 3, true)], 104⟩),
  (70, ⟨.struct, 9, [.bool false, .int .i64 0, .int .i64 0, .int .i64 0, .slice none 0 0, .int .i64 0, .int .i64 0, .int .i64 0, .slice none 0 0], [(0, 1, false), (1, 4, true), (5, 1, false), (6, 3, true)], 104⟩),
  (71, ⟨.struct, 10, [.slice none 0 0, .bool false, .int .i64 0, .int .i64 0, .int .i64 0, .slice none 0 0, .int .i64 0, .int .i64 0, .int .i64 0, .slice none 0 0], [(0, 1, false), (1, 9, true)], 128⟩),
  (72, ⟨.struct, 10, [.slice none 0 0, .bool false, .int .i64 0, .int .i64 0, .int .i64 0, .slice none 0 0, .int .i64 0, .int .i64 0, .int .i64 0, .slice none 0 0], [(0, 1, false), (1, 9, true)], 128⟩),
  (75, ⟨.struct, 4, [.int .i64 0, .int .i64 0, .int .i64 0, .slice none 0 0], [(0, 1, false), (1, 1, false), (2, 1, false), (3, 1, false)], 48⟩),
  (76, ⟨.struct, 3, [.int .i64 0, .int .i64 0, .slice none 0 0], [(0, 1, false), (1, 1, false), (2, 1, false)], 40⟩),
  (77, ⟨.struct, 8, [.bool false, .int .i64 0, .int .i64 0, .int .i64 0, .slice none 0 0, .int .i64 0, .int .i64 0, .slice none 0 0], [(0, 1, false), (1, 4, true), (5, 3, true)], 96⟩),
  (78, ⟨.struct, 8, [.bool false, .int .i64 0, .int .i64 0, .int .i64 0, .slice none 0 0, .int .i64 0, .int .i64 0, .slice none 0 0], [(0, 1, false), (1, 4, true), (5, 3, true)], 96⟩),
  (79, ⟨.struct, 21, zero79, [(0, 1, false), (1, 1, false), (2, 1, false), (3, 1, false), (4, 1, false), (5, 8, true), (13, 8, true)], 280⟩),
  (80, ⟨.struct, 21, zero80, [(0, 1, false), (1, 1, false), (2, 1, false), (3, 1, false), (4, 1, false), (5, 8, true), (13, 8, true)], 280⟩),
  (83, ⟨.slice 198, 1, [.slice none 0 0], [], 24⟩),
  (84, ⟨.struct, 4, [.int .i64 0, .int .i64 0, .int .i64 0, .slice none 0 0], [(0, 1, false), (1, 1, false), (2, 1, false), (3, 1, false)], 48⟩),
  (85, ⟨.struct, 3, [.int .i64 0, .int .i64 0, .slice none 0 0], [(0, 1, false), (1, 1, false), (2, 1, false)], 40⟩),
  (86, ⟨.struct, 8, [.bool false, .int .i64 0, .int .i64 0, .int .i64 0, .slice none 0 0, .int .i64 0, .int .i64 0, .slice none 0 0], [(0, 1, false), (1, 4, true), (5, 3, true)], 96⟩),
  (87, ⟨.struct, 8, [.bool false, .int .i64 0, .int .i64 0, .int .i64 0, .slice none 0 0, .int .i64 0, .int .i64 0, .slice none 0 0], [(0, 1, false), (1, 4, true), (5, 3, true)], 96⟩),
  (88, ⟨.struct, 22, zero88, [(0, 1, false), (1, 1, false), (2, 1, false), (3, 1, false), (4, 1, false), (5, 1, false), (6, 8, true), (14, 8, true)], 288⟩),
  (89, ⟨.struct, 22, zero89, [(0, 1, false), (1, 1, false), (2, 1, false), (3, 1, false), (4, 1, false), (5, 1, false), (6, 8, true), (14, 8, true)], 288⟩),
  (92, ⟨.ptr 132, 1, [.pointer none], [], 8⟩),
  (93, ⟨.slice 252, 1, [.slice none 0 0], [], 24⟩),
  (94, ⟨.struct, 2, [.int .i64 0, .slice none 0 0], [(0, 1, false), (1, 1, false)], 32⟩),
  (95, ⟨.struct, 2, [.int .i64 0, .slice none 0 0], [(0, 1, false), (1, 1, false)], 32⟩),
  (97, ⟨.struct, 3, [.int .i64 0, .int .i64 0, .int .i64 0], [(0, 1, false), (1, 1, false), (2, 1, false)], 24⟩),
  (98, ⟨.struct, 3, [.int .i64 0, .int .i64 0, .int .i64 0], [(0, 1, false), (1, 1, false), (2, 1, false)], 24⟩),
  (99, ⟨.slice 98, 1, [.slice none 0 0], [], 24⟩),
  (100, ⟨.slice 98, 1, [.slice none 0 0], [], 24⟩),
  (101, ⟨.struct, 1, [.slice none 0 0], [(0, 1, false)], 24⟩),
  (102, ⟨.struct, 1, [.slice none 0 0], [(0, 1, false)], 24⟩),
  (104, ⟨.struct, 8, [.int .i64 0, .int .i64 0, .int .i64 0, .bool false, .bool false, .bool false, .int .i64 0, .slice none 0 0], [(0, 1, false), (1, 1, false), (2, 1, false), (3, 1, false), (4, 1, false), (5, 1, false), (6, 1, false), (7, 1, false)], 64⟩),
  (105, ⟨.struct, 8, [.int .i64 0, .int .i64 0, .int .i64 0, .bool false, .bool false, .bool false, .int .i64 0, .slice none 0 0], [(0, 1, false), (1, 1, false), (2, 1, false), (3, 1, false), (4, 1, false), (5, 1, false), (6, 1, false), (7, 1, false)], 64⟩),
  (106, ⟨.arr 32 105, 256, zero106, [], 2048⟩),
  (107, ⟨.arr 11 4, 11, [.bool false, .bool false, .bool false, .bool false, .bool false, .bool false, .bool false, .bool false, .bool false, .bool false, .bool false], [], 11⟩),
  (108, ⟨.slice 53, 1, [.slice none 0 0], [], 24⟩),
  (109, ⟨.slice 297, 1, [.slice none 0 0], [], 24⟩),
  (110, ⟨.struct, 2, [.slice none 0 0, .slice none 0 0], [(0, 1, false), (1, 1, false)], 48⟩),
  (111, ⟨.struct, 2, [.slice none 0 0, .slice none 0 0], [(0, 1, false), (1, 1, false)], 48⟩),
  (112, ⟨.slice 367, 1, [.slice none 0 0], [], 24⟩),
  (113, ⟨.slice 367, 1, [.slice none 0 0], [], 24⟩),
  (114, ⟨.slice 3, 1, [.slice none 0 0], [], 24⟩),
  (115, ⟨.slice 3, 1, [.slice none 0 0], [], 24⟩),
  (116, ⟨.slice 362, 1, [.slice none 0 0], [], 24⟩),
  (117, ⟨.slice 362, 1, [.slice none 0 0], [], 24⟩),
  (118, ⟨.arr 32 117, 32, zero118, [], 768⟩),
  (119, ⟨.slice 277, 1, [.slice none 0 0], [], 24⟩),
  (120, ⟨.slice 277, 1, [.slice none 0 0], [], 24⟩),
  (121, ⟨.struct, 4, [.int .i64 0, .int .i64 0, .bool false, .bool false], [(0, 1, false), (1, 1, false), (2, 1, false), (3, 1, false)], 24⟩),
  (122, ⟨.struct, 4, [.int .i64 0, .int .i64 0, .bool false, .bool false], [(0, 1, false), (1, 1, false), (2, 1, false), (3, 1, false)], 24⟩),
  (123, ⟨.slice 188, 1, [.slice none 0 0], [], 24⟩),
  (124, ⟨.struct, 2, [.int .i64 0, .slice none 0 0], [(0, 1, false), (1, 1, false)], 32⟩),
  (125, ⟨.struct, 2, [.int .i64 0, .slice none 0 0], [(0, 1, false), (1, 1, false)], 32⟩),
  (126, ⟨.arr 5 4, 5, [.bool false, .bool false, .bool false, .bool false, .bool false], [], 5⟩),
  (127, ⟨.slice 148, 1, [.slice none 0 0], [], 24⟩),
  (128, ⟨.struct, 6, [.bool false, .bool false, .bool false, .bool false, .bool false, .slice none 0 0], [(0, 5, true), (5, 1, false)], 32⟩),
  (129, ⟨.struct, 6, [.bool false, .bool false, .bool false, .bool false, .bool false, .slice none 0 0], [(0, 5, true), (5, 1, false)], 32⟩),
  (130, ⟨.slice 372, 1, [.slice none 0 0], [], 24⟩),
  (131, ⟨.struct, 376, zero131, [(0, 256, true), (256, 11, true), (267, 2, true), (269, 2, true), (271, 1, false), (272, 1, false), (273, 1, false), (274, 1, true), (275, 32, true), (307, 1, false), (308, 10, true), (318, 4, true), (322, 22, true), (344, 21, true), (365, 2, true), (367, 6, true), (373, 1, false), (374, 1, false), (375, 1, false)], 3888⟩),
  (132, ⟨.struct, 376, zero132, [(0, 256, true), (256, 11, true), (267, 2, true), (269, 2, true), (271, 1, false), (272, 1, false), (273, 1, false), (274, 1, true), (275, 32, true), (307, 1, false), (308, 10, true), (318, 4, true), (322, 22, true), (344, 21, true), (365, 2, true), (367, 6, true), (373, 1, false), (374, 1, false), (375, 1, false)], 3888⟩),
  (133, ⟨.struct, 1, [.pointer none], [(0, 1, false)], 8⟩),
  (134, ⟨.struct, 1, [.pointer none], [(0, 1, false)], 8⟩),
  (137, ⟨.slice 68, 1, [.slice none 0 0], [], 24⟩),
  (138, ⟨.slice 85, 1, [.slice none 0 0], [], 24⟩),
  (139, ⟨.slice 76, 1, [.slice none 0 0], [], 24⟩),
  (147, ⟨.struct, 4, [.int .i64 0, .int .i64 0, .int .i64 0, .slice none 0 0], [(0, 1, false), (1, 1, false), (2, 1, false), (3, 1, false)], 48⟩),
  (148, ⟨.struct, 4, [.int .i64 0, .int .i64 0, .int .i64 0, .slice none 0 0], [(0, 1, false), (1, 1, false), (2, 1, false), (3, 1, false)], 48⟩),
  (162, ⟨.struct, 6, [.int .i64 0, .int .i64 0, .int .i64 0, .int .i64 0, .int .i64 0, .bool false], [(0, 1, false), (1, 1, false), (2, 1, false), (3, 1, false), (4, 1, false), (5, 1, false)], 48⟩),
  (163, ⟨.struct, 6, [.int .i64 0, .int .i64 0, .int .i64 0, .int .i64 0, .int .i64 0, .bool false], [(0, 1, false), (1, 1, false), (2, 1, false), (3, 1, false), (4, 1, false), (5, 1, false)], 48⟩),
  (172, ⟨.ptr 105, 1, [.pointer none], [], 8⟩),
  (174, ⟨.slice 179, 1, [.slice none 0 0], [], 24⟩),
  (176, ⟨.struct, 3, [.int .i64 0, .int .i64 0, .int .i64 0], [(0, 1, false), (1, 1, false), (2, 1, false)], 24⟩),
  (177, ⟨.struct, 3, [.int .i64 0, .int .i64 0, .int .i64 0], [(0, 1, false), (1, 1, false), (2, 1, false)], 24⟩),
  (178, ⟨.struct, 4, [.int .i64 0, .int .i64 0, .int .i64 0, .slice none 0 0], [(0, 3, true), (3, 1, false)], 48⟩),
  (179, ⟨.struct, 4, [.int .i64 0, .int .i64 0, .int .i64 0, .slice none 0 0], [(0, 3, true), (3, 1, false)], 48⟩),
  (184, ⟨.slice 4, 1, [.slice none 0 0], [], 24⟩),
  (187, ⟨.struct, 2, [.int .i64 0, .int .i64 0], [(0, 1, false), (1, 1, false)], 16⟩),
  (188, ⟨.struct, 2, [.int .i64 0, .int .i64 0], [(0, 1, false), (1, 1, false)], 16⟩),
  (193, ⟨.ptr 70, 1, [.pointer none], [], 8⟩),
  (197, ⟨.struct, 2, [.int .i64 0, .slice none 0 0], [(0, 1, false), (1, 1, false)], 32⟩),
  (198, ⟨.struct, 2, [.int .i64 0, .slice none 0 0], [(0, 1, false), (1, 1, false)], 32⟩),
  (207, ⟨.ptr 122, 1, [.pointer none], [], 8⟩),
  (239, ⟨.other, 1, [.nilFunc], [], 8⟩),
  (240, ⟨.arr 17 239, 17, [.nilFunc, .nilFunc, .nilFunc, .nilFunc, .nilFunc, .nilFunc, .nilFunc, .nilFunc, .nilFunc, .nilFunc, .nilFunc, .nilFunc, .nilFunc, .nilFunc, .nilFunc, .nilFunc, .nilFunc], [], 136⟩),
  (246, ⟨.slice 179, 1, [.slice none 0 0], [], 24⟩),
  (250, ⟨.ptr 95, 1, [.pointer none], [], 8⟩),
  (251, ⟨.struct, 6, [.int .i64 0, .int .i64 0, .int .i64 0, .int .i64 0, .int .i64 0, .int .i64 0], [(0, 1, false), (1, 1, false), (2, 1, false), (3, 3, true)], 48⟩),
  (252, ⟨.struct, 6, [.int .i64 0, .int .i64 0, .int .i64 0, .int .i64 0, .int .i64 0, .int .i64 0], [(0, 1, false), (1, 1, false), (2, 1, false), (3, 3, true)], 48⟩),
  (264, ⟨.ptr 89, 1, [.pointer none], [], 8⟩),
  (267, ⟨.ptr 87, 1, [.pointer none], [], 8⟩),
  (269, ⟨.ptr 80, 1, [.pointer none], [], 8⟩),
  (270, ⟨.ptr 78, 1, [.pointer none], [], 8⟩),
  (276, ⟨.struct, 4, [.int .i64 0, .int .i64 0, .int .i64 0, .bool false], [(0, 1, false), (1, 1, false), (2, 1, false), (3, 1, false)], 32⟩),
  (277, ⟨.struct, 4, [.int .i64 0, .int .i64 0, .int .i64 0, .bool false], [(0, 1, false), (1, 1, false), (2, 1, false), (3, 1, false)], 32⟩),
  (296, ⟨.struct, 3, [.int .i64 0, .int .i64 0, .int .i64 0], [(0, 1, false), (1, 1, false), (2, 1, false)], 24⟩),
  (297, ⟨.struct, 3, [.int .i64 0, .int .i64 0, .int .i64 0], [(0, 1, false), (1, 1, false), (2, 1, false)], 24⟩),
  (304, ⟨.slice 177, 1, [.slice none 0 0], [], 24⟩),
  (308, ⟨.ptr 246, 1, [.pointer none], [], 8⟩),
  (309, ⟨.map 3 177, 1, [.map none], [], 8⟩),
  (310, ⟨.map 312 4, 1, [.map none], [], 8⟩),
  (311, ⟨.struct, 4, [.int .i64 0, .int .i64 0, .int .i64 0, .int .i64 0], [(0, 1, false), (1, 3, true)], 32⟩),
  (312, ⟨.struct, 4, [.int .i64 0, .int .i64 0, .int .i64 0, .int .i64 0], [(0, 1, false), (1, 3, true)], 32⟩),
  (324, ⟨.int .u64, 1, [.int .u64 0], [], 8⟩),
  (327, ⟨.arr 5 3, 5, [.int .i64 0, .int .i64 0, .int .i64 0, .int .i64 0, .int .i64 0], [], 40⟩),
  (329, ⟨.int .u64, 1, [.int .u64 0], [], 8⟩),
  (334, ⟨.map 297 3, 1, [.map none], [], 8⟩),
  (361, ⟨.struct, 3, [.int .i64 0, .int .i64 0, .bool false], [(0, 1, false), (1, 1, false), (2, 1, false)], 24⟩),
  (362, ⟨.struct, 3, [.int .i64 0, .int .i64 0, .bool false], [(0, 1, false), (1, 1, false), (2, 1, false)], 24⟩),
  (366, ⟨.struct, 4, [.int .i64 0, .int .i64 0, .int .i64 0, .int .i64 0], [(0, 1, false), (1, 1, false), (2, 1, false), (3, 1, false)], 32⟩),
  (367, ⟨.struct, 4, [.int .i64 0, .int .i64 0, .int .i64 0, .int .i64 0], [(0, 1, false), (1, 1, false), (2, 1, false), (3, 1, false)], 32⟩),
  (371, ⟨.struct, 3, [.int .i64 0, .int .i64 0, .int .i64 0], [(0, 1, false), (1, 1, false), (2, 1, false)], 24⟩),
  (372, ⟨.struct, 3, [.int .i64 0, .int .i64 0, .int .i64 0], [(0, 1, false), (1, 1, false), (2, 1, false)], 24⟩),
  (378, ⟨.struct, 4, [.int .i64 0, .int .i64 0, .string ⟨#[]⟩, .int .i64 0], [(0, 1, false), (1, 1, false), (2, 1, false), (3, 1, false)], 40⟩),
  (379, ⟨.struct, 4, [.int .i64 0, .int .i64 0, .string ⟨#[]⟩, .int .i64 0], [(0, 1, false), (1, 1, false), (2, 1, false), (3, 1, false)], 40⟩),
  (380, ⟨.arr 28 379, 112, zero380, [], 1120⟩),
  (409, ⟨.map 3 4, 1, [.map none], [], 8⟩),
  (413, ⟨.slice 117, 1, [.slice none 0 0], [], 24⟩),
  (440, ⟨.int .i64, 1, [.int .i64 0], [], 8⟩),
  (447, ⟨.int .u32, 1, [.int .u32 0], [], 4⟩),
  (450, ⟨.int .u64, 1, [.int .u64 0], [], 8⟩),
  (454, ⟨.ptr 3, 1, [.pointer none], [], 8⟩),
  (456, ⟨.ptr 450, 1, [.pointer none], [], 8⟩),
  (468, ⟨.ptr 5, 1, [.pointer none], [], 8⟩)]

set_option maxHeartbeats 4000000 in
set_option maxRecDepth 100000 in
theorem tabOk : TabOk Tryz.prog tab := tabOk_of (by kernel_rfl)

end Go.Proofs.YtakammghcodmgaaGreatDoor
namespace Go.Proofs.YtakammghcodmgaaGreatDoor
open Go Go.Sx

theorem mixed : Tryz.prog.follows .mixedOrders = true := by kernel_rfl

end Go.Proofs.YtakammghcodmgaaGreatDoor
namespace Go.Proofs.YtakammghcodmgaaGreatDoor
open Go Go.Sx
set_option maxRecDepth 100000
set_option maxHeartbeats 4000000
set_option linter.unusedVariables false
set_option linter.unusedSimpArgs false

theorem isNaN_spec (a : Int) : PureSpec Tryz.prog 147 [.int .i64 a] (fun _ => True) (fun v F => v = .bool false) := by
 refine PureSpec.of_xc tabOk Tryz.func147 rfl (by decide) (n := Tryz.f147.ntmps - 1) rfl rfl fun w0 av => ?_
 conv => whnf
 repeat (first | (refine XSame.of ?_; conv => whnf) | (refine XDep.all _ _ _ _ ?_; conv => whnf))
 exact ⟨_, Ent.refl _, by simp [iNe_eq]⟩

def cmpI (a b : Int) : Int := if a < b then -1 else if b < a then 1 else 0

theorem cmp_spec (a b : Int) : PureSpec Tryz.prog 84 [.int .i64 a, .int .i64 b] (fun _ => True) (fun v F => v = .int .i64 (cmpI a b)) := by
 have h1 := isNaN_spec a
 have h2 := isNaN_spec b
 obtain ⟨z, hz⟩ : ∃ z, z = false := ⟨_, rfl⟩
 rw [← hz] at h1 h2
 refine PureSpec.of_xc tabOk Tryz.func84 rfl (by decide) (n := Tryz.f84.ntmps - 2) rfl rfl fun w0 av => ?_
 conv => whnf
 repeat (first | (refine XSame.of ?_; conv => whnf) | (refine XDep.all _ _ _ _ ?_; conv => whnf))
 refine XCall.val h1 (fun w hw => trivial) (fun v D hv => ?_)
 subst hv
 conv => whnf
 repeat (first | (refine XSame.of ?_; conv => whnf) | (refine XDep.all _ _ _ _ ?_; conv => whnf))
 refine XCall.val h2 (fun w hw => trivial) (fun v D hv => ?_)
 subst hv
 conv => whnf
 repeat (first | (refine XSame.of ?_; conv => whnf) | (refine XDep.all _ _ _ _ ?_; conv => whnf))
 refine XIf.no hz ?_
 conv => whnf
 repeat (first | (refine XSame.of ?_; conv => whnf) | (refine XDep.all _ _ _ _ ?_; conv => whnf))
 refine XIf.no hz ?_
 conv => whnf
 repeat (first | (refine XSame.of ?_; conv => whnf) | (refine XDep.all _ _ _ _ ?_; conv => whnf))
 refine XIf.split (fun h => ?_) (fun h => ?_)
 · conv => whnf
   repeat (first | (refine XSame.of ?_; conv => whnf) | (refine XDep.all _ _ _ _ ?_; conv => whnf))
   refine ⟨_, Ent.refl _, ?_⟩
   rw [iLt_eq, decide_eq_true_eq] at h
   unfold cmpI
   rw [if_pos h]
 rw [iLt_eq, decide_eq_false_iff_not] at h
 conv => whnf
 repeat (first | (refine XSame.of ?_; conv => whnf) | (refine XDep.all _ _ _ _ ?_; conv => whnf))
 refine XIf.split (fun k => ?_) (fun k => ?_)
 · conv => whnf
   repeat (first | (refine XSame.of ?_; conv => whnf) | (refine XDep.all _ _ _ _ ?_; conv => whnf))
   refine ⟨_, Ent.refl _, ?_⟩
   rw [iGt_eq, decide_eq_true_eq] at k
   unfold cmpI
   rw [if_neg h, if_pos k]
 · rw [iGt_eq, decide_eq_false_iff_not] at k
   conv => whnf
   repeat (first | (refine XSame.of ?_; conv => whnf) | (refine XDep.all _ _ _ _ ?_; conv => whnf))
   refine ⟨_, Ent.refl _, ?_⟩
   unfold cmpI
   rw [if_neg h, if_neg k]

def orI (x y : Int) : Int := if x ≠ 0 then x else y

theorem or_spec (x y : Int) (b c : Nat) (hc : 2 ≤ c) : PureSpec Tryz.prog 83 [.slice (some ⟨b, 0, none⟩) 2 c] (fun w => RowAt w (some ⟨b, 0, none⟩) [.int .i64 x, .int .i64 y]) (fun v F => v = .int .i64 (orI x y)) := by
 obtain ⟨o, ho⟩ : ∃ o : Nat, o = 2 := ⟨_, rfl⟩
 rw [← ho]
 refine PureSpec.of_xc tabOk Tryz.func83 rfl (by decide) (n := Tryz.f83.ntmps - 1) rfl rfl fun w0 av => ?_
 conv => whnf
 repeat (first | (refine XSame.of ?_; conv => whnf) | (refine XDep.all _ _ _ _ ?_; conv => whnf))
 refine XStop.loop tabOk (ι := Nat) ([5] ++ List.range' 8 9) (fun j => j ≤ 2 ∧ (1 ≤ j → x = 0) ∧ (2 ≤ j → y = 0)) (fun j => [(8, .v (.int .i64 (j : Int)))])
  (fun _ => []) (fun _ => ⟨fun w => RowAt w (some ⟨b, 0, none⟩) [.int .i64 x, .int .i64 y], []⟩) (fun j => 2 - j) 0 (by omega) ?_ rfl (Ent.refl _) fun i hi => ?_
 · conv => whnf
   repeat (first | exact FLe.nil | refine FLe.any ?_ | refine FLe.cons ?_)
 obtain ⟨hi, hx, hy⟩ := hi
 conv => whnf
 repeat (first | (refine XSame.of ?_; conv => whnf) | (refine XDep.all _ _ _ _ ?_; conv => whnf))
 refine XIf.split (fun hlt => ?_) (fun hlt => ?_)
 · have hlt' : i < 2 := by
    simp [iLt_eq] at hlt
    omega
   have hcell : ([.int .i64 x, .int .i64 y] : List Value)[i]? = some (.int .i64 (if i = 0 then x else y)) := by
    rcases i with _ | _ | i
    · rfl
    · rfl
    · omega
   conv => whnf
   repeat (first | (refine XSame.of ?_; conv => whnf) | (refine XDep.all _ _ _ _ ?_; conv => whnf))
   refine XVal.of_read (XRead.index tabOk (t := 114) rfl rfl rfl (by omega) (by omega) (fun h => by cases h) fun ad had => ?_)
   conv => whnf
   repeat (first | (refine XSame.of ?_; conv => whnf) | (refine XDep.all _ _ _ _ ?_; conv => whnf))
   refine XVal.of_read (XRead.loadF tabOk (t := 3) rfl rfl (ad := ad) (k := i) (L := [.int .i64 x, .int .i64 y]) (v := .int .i64 (if i = 0 then x else y)) (.fact fun w hw => had ▸ hw) (fun hs => by rw [Nat.mul_one]; rfl) hcell ?_)
   conv => whnf
   repeat (first | (refine XSame.of ?_; conv => whnf) | (refine XDep.all _ _ _ _ ?_; conv => whnf))
   refine XIf.split (fun hq => ?_) (fun hq => ?_)
   · simp only [iNe_eq, bne_iff_ne] at hq
     conv => whnf
     repeat (first | (refine XSame.of ?_; conv => whnf) | (refine XDep.all _ _ _ _ ?_; conv => whnf))
     refine ⟨_, Ent.refl _, ?_⟩
     congr 1
     unfold orI
     by_cases h0 : i = 0
     · rw [if_pos h0] at hq ⊢
       rw [if_pos hq]
     · rw [if_neg h0] at hq ⊢
       rw [if_neg (by rw [hx (by omega)]; simp)]
   · simp only [iNe_eq, bne_eq_false_iff_eq] at hq
     conv => whnf
     repeat (first | (refine XSame.of ?_; conv => whnf) | (refine XDep.all _ _ _ _ ?_; conv => whnf))
     refine ⟨i + 1, ⟨⟨hlt', fun _ => ?_, fun _ => ?_⟩, by dsimp only; omega⟩, ?_, ?_, Ent.refl _⟩
     · by_cases h0 : i = 0
       · rw [if_pos h0] at hq
         omega
       · exact hx (by omega)
     · rw [if_neg (by omega)] at hq
       omega
     · conv => whnf
       refine ⟨?_, rfl⟩
       repeat (first | exact FLe.nil | refine FLe.any ?_ | refine FLe.cons ?_ | refine FLe.eq (by rw [wrap_i64 (by omega)]; rfl) ?_)
     · conv => whnf
       exact trivial
 · have h2 : 2 ≤ i := by
    simp [iLt_eq] at hlt
    omega
   conv => whnf
   repeat (first | (refine XSame.of ?_; conv => whnf) | (refine XDep.all _ _ _ _ ?_; conv => whnf))
   refine ⟨_, Ent.refl _, ?_⟩
   unfold orI
   rw [hx (by omega), hy h2]
   rfl

def ordI (a b c d : Int) : Int := orI (cmpI a b) (cmpI c d)

end Go.Proofs.YtakammghcodmgaaGreatDoor
namespace Go.Proofs.YtakammghcodmgaaGreatDoor
open Go Go.Sx
set_option maxRecDepth 100000
set_option maxHeartbeats 4000000
set_option linter.unusedVariables false
set_option linter.unusedSimpArgs false

theorem porOrder_spec (a1 b1 c1 a2 b2 c2 : Int) : PureSpec Tryz.prog 204 [.agg ⟨[.int .i64 a1, .int .i64 b1, .int .i64 c1]⟩, .agg ⟨[.int .i64 a2, .int .i64 b2, .int .i64 c2]⟩] (fun _ => True) (fun v F => v = .int .i64 (ordI a1 a2 b1 b2)) := by
 have h1 := cmp_spec a1 a2
 have h2 := cmp_spec b1 b2
 unfold ordI
 generalize cmpI a1 a2 = x at *
 generalize cmpI b1 b2 = y at *
 refine PureSpec.of_xc tabOk Tryz.func204 rfl (by decide) (n := Tryz.f204.ntmps - 2) rfl rfl fun w0 av => ?_
 conv => whnf
 repeat (first | (refine XSame.of ?_; conv => whnf) | (refine XDep.all _ _ _ _ ?_; conv => whnf))
 intro b3
 conv => whnf
 repeat (first | (refine XSame.of ?_; conv => whnf) | (refine XDep.all _ _ _ _ ?_; conv => whnf))
 intro b4
 conv => whnf
 repeat (first | (refine XSame.of ?_; conv => whnf) | (refine XDep.all _ _ _ _ ?_; conv => whnf))
 refine XStop.draw tabOk mixed rfl rfl ?_
 conv => whnf
 repeat' (first
  | (refine And.intro ?_ ?_ <;> conv => whnf)
  | (refine XHeld.same rfl ?_; conv => whnf)
  | (refine XHeld.row rfl ?_; conv => whnf)
  | (refine XHeld.call rfl ?_; conv => whnf)
  | (refine XHeld.factCall rfl ?_; conv => whnf)
  | (refine XKeep.of ?_; conv => whnf)
  | (refine XSame.of ?_; conv => whnf)
  | (refine XDep.all _ _ _ _ ?_; conv => whnf)
  | (refine XCall.val h1 (fun w hw => trivial) (fun v D hv => ?_); subst hv; conv => whnf)
  | (refine XCall.val h2 (fun w hw => trivial) (fun v D hv => ?_); subst hv; conv => whnf)
  | (refine XVal.build tabOk (t := 114) rfl rfl rfl [.int .i64 x, .int .i64 y] rfl rfl (by simp [Value.cells]) (by decide) fun b5 => ?_; conv => whnf)
  | (refine XCall.ent (F' := ⟨fun w => RowAt w (some ⟨b5, 0, none⟩) [.int .i64 x, .int .i64 y], []⟩) (Ent.trans (G := ⟨fun w => True, [] ++ [(b5, Row.c [.int .i64 x, .int .i64 y])]⟩) (Ent.of_le ⟨by simp [Value.cells], fun w hw => trivial⟩) (Ent.trans Ent.share1 (Ent.imp fun w hw => hw.2))) ?_; refine XCall.val (or_spec x y b5 _ (Nat.le_refl _)) (fun w hw => hw) (fun v D hv => ?_); subst hv; conv => whnf)
  | (refine XHeld.mk ?_ ?_; (focus (first | exact Ent.refl _ | exact Ent.left _ _ | exact Ent.of_le ⟨List.sublist_append_left _ _, fun w h => h⟩ | exact Ent.of_le ⟨List.Sublist.refl _, fun w h => h.1⟩)); conv => whnf))
 all_goals exact ⟨_, Ent.refl _, rfl⟩

def fint : Option Nat → Int
 | some i => i
 | none => -1

theorem fint_any {α : Type} (l : List α) (p : α → Bool) : decide (fint (l.findIdx? p) ≥ 0) = l.any p := by
 cases h : l.findIdx? p with
 | none =>
  rw [List.findIdx?_eq_none_iff] at h
  have : l.any p = false := by
   rw [List.any_eq_false]
   intro x hx
   have := h x hx
   simp [this]
  rw [this]
  rfl
 | some i =>
  rw [List.findIdx?_eq_some_iff_getElem] at h
  obtain ⟨h1, h2, -⟩ := h
  have : l.any p = true := List.any_eq_true.2 ⟨_, List.getElem_mem h1, h2⟩
  rw [this]
  show decide ((i : Int) ≥ 0) = true
  simp

theorem byt_idx {α : Type} (vf : α → Value) (hone : ∀ x, oneCell (vf x) = true) (f : FuncId) (Pre : World → Prop) (p : α → Bool) (l : List α) (h : Hd) (hh : h.Ok l.length) (hl : l.length ≤ 140737488355328) (hf : ∀ e ∈ l, PureSpec Tryz.prog f [(vf e)] Pre (fun v F => v = .bool (p e))) :
 PureSpec Tryz.prog 184 [h.v l.length, .func (.func f) #[] #[]] (fun w => RowAt w h.a (l.map vf) ∧ Pre w) (fun v F => v = .int .i64 (fint (l.findIdx? p))) := by
 refine PureSpec.of_xc tabOk Tryz.func184 rfl (by decide) (n := Tryz.f184.ntmps - 2) rfl rfl fun w0 av => ?_
 conv => whnf
 refine XStop.loop tabOk (ι := Nat) ([5] ++ List.range' 8 11) (fun x => x ≤ l.length ∧ ∀ j (hj : j < l.length), j < x → p l[j] = false)
  (fun x => [(8, .v (.int .i64 (x : Int)))]) (fun _ => []) (fun _ => ⟨fun w => RowAt w h.a (l.map vf) ∧ Pre w, []⟩)
  (fun x => l.length - x) 0 ⟨Nat.zero_le _, fun j hj h => by omega⟩ ?_ rfl (Ent.refl _) fun i hi => ?_
 · conv => whnf
   repeat (first | exact FLe.nil | refine FLe.any ?_ | refine FLe.cons ?_)
 obtain ⟨hi, hall⟩ := hi
 conv => whnf
 refine XIf.split (fun hlt => ?_) (fun hlt => ?_)
 · have hlt' : i < l.length := by
    simp only [iLt_eq, decide_eq_true_eq] at hlt
    omega
   conv => whnf
   repeat (first | (refine XSame.of ?_; conv => whnf) | (refine XDep.all _ _ _ _ ?_; conv => whnf))
   refine XVal.of_read (XRead.index tabOk (t := 66) rfl rfl rfl (by omega) (by omega) hh.nil fun ad had => ?_)
   conv => whnf
   repeat (first | (refine XSame.of ?_; conv => whnf) | (refine XDep.all _ _ _ _ ?_; conv => whnf))
   refine XVal.of_read (XRead.loadF tabOk (t := 22) rfl rfl (ad := ad) (k := i) (L := l.map vf) (v := vf l[i]) (.fact fun w hw => had ▸ hw.1) (fun hs => by rw [Nat.mul_one]; rfl) (by rw [List.getElem?_map, List.getElem?_eq_getElem hlt']; rfl) ?_)
   conv => whnf
   repeat (first | (refine XSame.of ?_; conv => whnf) | (refine XDep.all _ _ _ _ ?_; conv => whnf))
   refine XCall.val (hf _ (List.getElem_mem hlt')) (fun w hw => hw.2) (fun v D hv => ?_)
   generalize hq : p l[i] = q at hv
   subst hv
   cases q
   · conv => whnf
     repeat (first | (refine XSame.of ?_; conv => whnf) | (refine XDep.all _ _ _ _ ?_; conv => whnf))
     refine ⟨i + 1, ⟨⟨hlt', fun j hj h => ?_⟩, by dsimp only; omega⟩, ?_, ?_, Ent.refl _⟩
     · rcases Nat.lt_or_eq_of_le (Nat.lt_succ_iff.1 h) with h5 | h5
       · exact hall j hj h5
       · subst h5
         exact hq
     · conv => whnf
       refine ⟨?_, rfl⟩
       repeat (first | exact FLe.nil | refine FLe.any ?_ | refine FLe.cons ?_ | refine FLe.eq (by rw [wrap_i64 (by omega)]; rfl) ?_)
     · conv => whnf
       exact trivial
   · conv => whnf
     repeat (first | (refine XSame.of ?_; conv => whnf) | (refine XDep.all _ _ _ _ ?_; conv => whnf))
     refine ⟨_, Ent.refl _, ?_⟩
     have : l.findIdx? p = some i := by
      rw [List.findIdx?_eq_some_iff_getElem]
      exact ⟨hlt', hq, fun j hj => by simpa using hall j (by omega) hj⟩
     rw [this]
     rfl
 · have hie : i = l.length := by
    simp only [iLt_eq, decide_eq_false_iff_not] at hlt
    omega
   subst hie
   conv => whnf
   repeat (first | (refine XSame.of ?_; conv => whnf) | (refine XDep.all _ _ _ _ ?_; conv => whnf))
   refine ⟨_, Ent.refl _, ?_⟩
   have : l.findIdx? p = none := by
    rw [List.findIdx?_eq_none_iff]
    intro x hx
    obtain ⟨j, hj, rfl⟩ := List.getElem_of_mem hx
    simpa using hall j hj hj
   rw [this]
   rfl

theorem byt_has {α : Type} (vf : α → Value) (hone : ∀ x, oneCell (vf x) = true) (f : FuncId) (Pre : World → Prop) (p : α → Bool) (l : List α) (h : Hd) (hh : h.Ok l.length) (hl : l.length ≤ 140737488355328) (hf : ∀ e ∈ l, PureSpec Tryz.prog f [(vf e)] Pre (fun v F => v = .bool (p e))) :
 PureSpec Tryz.prog 113 [h.v l.length, .func (.func f) #[] #[]] (fun w => RowAt w h.a (l.map vf) ∧ Pre w) (fun v F => v = .bool (l.any p)) := by
 have hi := byt_idx vf hone f Pre p l h hh hl hf
 have hv := fint_any l p
 generalize fint (l.findIdx? p) = j at *
 refine PureSpec.of_xc tabOk Tryz.func113 rfl (by decide) (n := Tryz.f113.ntmps - 2) rfl rfl fun w0 av => ?_
 conv => whnf
 repeat (first | (refine XSame.of ?_; conv => whnf) | (refine XDep.all _ _ _ _ ?_; conv => whnf))
 refine XCall.val hi (fun w hw => hw) (fun v D hv => ?_)
 subst hv
 conv => whnf
 repeat (first | (refine XSame.of ?_; conv => whnf) | (refine XDep.all _ _ _ _ ?_; conv => whnf))
 exact ⟨_, Ent.refl _, by rw [← hv, iGe_eq]⟩

theorem cap_idx {α : Type} (cf : α → List Value) (hz : ∀ x, (cf x).length = 6) (f : FuncId) (Pre : World → Prop) (p : α → Bool) (u0 u1 : Value) (l : List α) (h : Hd) (hh : h.Ok l.length) (hl : l.length ≤ 140737488355328) (hf : ∀ e ∈ l, PureSpec Tryz.prog f [.agg ⟨cf e⟩, u0, u1] Pre (fun v F => v = .bool (p e))) :
 PureSpec Tryz.prog 181 [h.v l.length, .func (.func f) #[] #[u0, u1]] (fun w => RowAt w h.a (l.flatMap cf) ∧ Pre w) (fun v F => v = .int .i64 (fint (l.findIdx? p))) := by
 refine PureSpec.of_xc tabOk Tryz.func181 rfl (by decide) (n := Tryz.f181.ntmps - 2) rfl rfl fun w0 av => ?_
 conv => whnf
 refine XStop.loop tabOk (ι := Nat) ([5] ++ List.range' 8 11) (fun x => x ≤ l.length ∧ ∀ j (hj : j < l.length), j < x → p l[j] = false)
  (fun x => [(8, .v (.int .i64 (x : Int)))]) (fun _ => []) (fun _ => ⟨fun w => RowAt w h.a (l.flatMap cf) ∧ Pre w, []⟩)
  (fun x => l.length - x) 0 ⟨Nat.zero_le _, fun j hj h => by omega⟩ ?_ rfl (Ent.refl _) fun i hi => ?_
 · conv => whnf
   repeat (first | exact FLe.nil | refine FLe.any ?_ | refine FLe.cons ?_)
 obtain ⟨hi, hall⟩ := hi
 conv => whnf
 refine XIf.split (fun hlt => ?_) (fun hlt => ?_)
 · have hlt' : i < l.length := by
    simp only [iLt_eq, decide_eq_true_eq] at hlt
    omega
   conv => whnf
   repeat (first | (refine XSame.of ?_; conv => whnf) | (refine XDep.all _ _ _ _ ?_; conv => whnf))
   refine XVal.of_read (XRead.index tabOk (t := 93) rfl rfl rfl (by omega) (by omega) hh.nil fun ad had => ?_)
   conv => whnf
   repeat (first | (refine XSame.of ?_; conv => whnf) | (refine XDep.all _ _ _ _ ?_; conv => whnf))
   refine XVal.of_read (XRead.loads tabOk (t := 252) rfl rfl (ad := ad) (k := i * 6) (L := l.flatMap cf) (m := cf l[i]) (.fact fun w hw => had ▸ hw.1) (by simp) (fm_get hz hlt') (hz _) ?_)
   conv => whnf
   repeat (first | (refine XSame.of ?_; conv => whnf) | (refine XDep.all _ _ _ _ ?_; conv => whnf))
   refine XCall.val (hf _ (List.getElem_mem hlt')) (fun w hw => hw.2) (fun v D hv => ?_)
   generalize hq : p l[i] = q at hv
   subst hv
   cases q
   · conv => whnf
     repeat (first | (refine XSame.of ?_; conv => whnf) | (refine XDep.all _ _ _ _ ?_; conv => whnf))
     refine ⟨i + 1, ⟨⟨hlt', fun j hj h => ?_⟩, by dsimp only; omega⟩, ?_, ?_, Ent.refl _⟩
     · rcases Nat.lt_or_eq_of_le (Nat.lt_succ_iff.1 h) with h5 | h5
       · exact hall j hj h5
       · subst h5
         exact hq
     · conv => whnf
       refine ⟨?_, rfl⟩
       repeat (first | exact FLe.nil | refine FLe.any ?_ | refine FLe.cons ?_ | refine FLe.eq (by rw [wrap_i64 (by omega)]; rfl) ?_)
     · conv => whnf
       exact trivial
   · conv => whnf
     repeat (first | (refine XSame.of ?_; conv => whnf) | (refine XDep.all _ _ _ _ ?_; conv => whnf))
     refine ⟨_, Ent.refl _, ?_⟩
     have : l.findIdx? p = some i := by
      rw [List.findIdx?_eq_some_iff_getElem]
      exact ⟨hlt', hq, fun j hj => by simpa using hall j (by omega) hj⟩
     rw [this]
     rfl
 · have hie : i = l.length := by
    simp only [iLt_eq, decide_eq_false_iff_not] at hlt
    omega
   subst hie
   conv => whnf
   repeat (first | (refine XSame.of ?_; conv => whnf) | (refine XDep.all _ _ _ _ ?_; conv => whnf))
   refine ⟨_, Ent.refl _, ?_⟩
   have : l.findIdx? p = none := by
    rw [List.findIdx?_eq_none_iff]
    intro x hx
    obtain ⟨j, hj, rfl⟩ := List.getElem_of_mem hx
    simpa using hall j hj hj
   rw [this]
   rfl

theorem cap_has {α : Type} (cf : α → List Value) (hz : ∀ x, (cf x).length = 6) (f : FuncId) (Pre : World → Prop) (p : α → Bool) (u0 u1 : Value) (l : List α) (h : Hd) (hh : h.Ok l.length) (hl : l.length ≤ 140737488355328) (hf : ∀ e ∈ l, PureSpec Tryz.prog f [.agg ⟨cf e⟩, u0, u1] Pre (fun v F => v = .bool (p e))) :
 PureSpec Tryz.prog 107 [h.v l.length, .func (.func f) #[] #[u0, u1]] (fun w => RowAt w h.a (l.flatMap cf) ∧ Pre w) (fun v F => v = .bool (l.any p)) := by
 have hi := cap_idx cf hz f Pre p u0 u1 l h hh hl hf
 have hv := fint_any l p
 generalize fint (l.findIdx? p) = j at *
 refine PureSpec.of_xc tabOk Tryz.func107 rfl (by decide) (n := Tryz.f107.ntmps - 2) rfl rfl fun w0 av => ?_
 conv => whnf
 repeat (first | (refine XSame.of ?_; conv => whnf) | (refine XDep.all _ _ _ _ ?_; conv => whnf))
 refine XCall.val hi (fun w hw => hw) (fun v D hv => ?_)
 subst hv
 conv => whnf
 repeat (first | (refine XSame.of ?_; conv => whnf) | (refine XDep.all _ _ _ _ ?_; conv => whnf))
 exact ⟨_, Ent.refl _, by rw [← hv, iGe_eq]⟩

end Go.Proofs.YtakammghcodmgaaGreatDoor
namespace Go.Proofs.YtakammghcodmgaaGreatDoor
open Go Go.Sx
set_option maxRecDepth 100000
set_option maxHeartbeats 4000000
set_option linter.unusedVariables false
set_option linter.unusedSimpArgs false

def allI (n : Nat) (q : Nat → Bool) : Bool := (List.range n).all q

theorem allI_true {n : Nat} {q : Nat → Bool} (h : ∀ j, j < n → q j = true) : allI n q = true := by
 unfold allI
 rw [List.all_eq_true]
 intro j hj
 exact h j (List.mem_range.1 hj)

theorem allI_false {n j : Nat} {q : Nat → Bool} (hj : j < n) (h : q j = false) : allI n q = false := by
 unfold allI
 rw [List.all_eq_false]
 exact ⟨j, List.mem_range.2 hj, by rw [h]; decide⟩

theorem allI_iff {n : Nat} {q : Nat → Bool} : allI n q = true ↔ ∀ j, j < n → q j = true := by
 unfold allI
 rw [List.all_eq_true]
 exact ⟨fun h j hj => h j (List.mem_range.2 hj), fun h j hj => h j (List.mem_range.1 hj)⟩

structure Se where
 page : Int
 frame : Int
 w : Bool
 deriving Inhabited

def seC (x : Se) : List Value := [.int .i64 x.page, .int .i64 x.frame, .bool x.w]

theorem bang {α : Type} [Inhabited α] {l : List α} {i : Nat} (h : i < l.length) : l[i]! = l[i] := by
 rw [getElem!_pos]

end Go.Proofs.YtakammghcodmgaaGreatDoor
namespace Go.Proofs.YtakammghcodmgaaGreatDoor
open Go Go.Sx
set_option maxRecDepth 100000
set_option maxHeartbeats 4000000
set_option linter.unusedVariables false
set_option linter.unusedSimpArgs false

structure Al where
 id : Int
 at' : Int
 deriving Inhabited

def alC (x : Al) : List Value := [.int .i64 x.id, .int .i64 x.at']
def alOk (now : Int) (l : List Al) (j : Nat) : Bool := decide (0 ≤ l[j]!.id ∧ (0 < j → l[j - 1]!.id < l[j]!.id) ∧ now < l[j]!.at' ∧ l[j]!.at' ≤ 1099511627776)

theorem clockValid_spec (now : Int) (l : List Al) (h : Hd) (hh : h.Ok l.length) (hl : l.length ≤ 140737488355328) :
 PureSpec Tryz.prog 56 [.agg ⟨[.int .i64 now, h.v l.length]⟩] (fun w => RowAt w h.a (l.flatMap alC)) (fun v F => v = .bool (allI l.length (alOk now l) && decide (0 ≤ now ∧ now ≤ 1099511627776 ∧ l.length ≤ 32))) := by
 refine PureSpec.of_xc tabOk Tryz.func56 rfl (by decide) (n := Tryz.f56.ntmps - 1) rfl rfl fun w0 av => ?_
 conv => whnf
 repeat (first | (refine XSame.of ?_; conv => whnf) | (refine XDep.all _ _ _ _ ?_; conv => whnf))
 intro b0
 conv => whnf
 repeat (first | (refine XSame.of ?_; conv => whnf) | (refine XDep.all _ _ _ _ ?_; conv => whnf))
 refine XStop.loop tabOk (ι := Nat) ([3, 4] ++ List.range' 8 37) (fun x => x ≤ l.length ∧ ∀ j, j < x → alOk now l j = true)
  (fun x => [(8, .v (.int .i64 (x : Int)))]) (fun _ => [[.int .i64 now, h.v l.length]]) (fun _ => ⟨fun w => RowAt w h.a (l.flatMap alC), []⟩)
  (fun x => l.length - x) 0 ⟨Nat.zero_le _, fun j h => by omega⟩ ?_ rfl (Ent.refl _) fun i hi => ?_
 · conv => whnf
   repeat (first | exact FLe.nil | refine FLe.any ?_ | refine FLe.cons ?_)
 obtain ⟨hi, hall⟩ := hi
 conv => whnf
 repeat (first | (refine XSame.of ?_; conv => whnf) | (refine XDep.all _ _ _ _ ?_; conv => whnf))
 refine XIf.split (fun hlt => ?_) (fun hlt => ?_)
 · have hlt' : i < l.length := by
    simp only [iLt_eq, decide_eq_true_eq] at hlt
    omega
   have hok : alOk now l i = decide (0 ≤ l[i].id ∧ (0 < i → l[i - 1]!.id < l[i].id) ∧ now < l[i].at' ∧ l[i].at' ≤ 1099511627776) := by
    unfold alOk
    rw [bang hlt']
   have hnext : alOk now l i = true → ∀ j, j < i + 1 → alOk now l j = true := fun hs j hj => by
    rcases Nat.lt_or_eq_of_le (Nat.lt_succ_iff.1 hj) with h5 | h5
    · exact hall j h5
    · exact h5 ▸ hs
   conv => whnf
   repeat (first | (refine XSame.of ?_; conv => whnf) | (refine XDep.all _ _ _ _ ?_; conv => whnf))
   refine XVal.of_read (XRead.index tabOk (t := 123) rfl rfl rfl (by omega) (by omega) hh.nil fun ad had => ?_)
   conv => whnf
   repeat (first | (refine XSame.of ?_; conv => whnf) | (refine XDep.all _ _ _ _ ?_; conv => whnf))
   refine XVal.of_read (XRead.loads tabOk (t := 188) rfl rfl (ad := ad) (k := i * 2) (L := l.flatMap alC) (m := alC l[i]) (.fact fun w hw => had ▸ hw) (by simp) (fm_get (cf := alC) (z := 2) (fun _ => rfl) hlt') rfl ?_)
   conv => whnf
   repeat (first | (refine XSame.of ?_; conv => whnf) | (refine XDep.all _ _ _ _ ?_; conv => whnf))
   intro b1
   conv => whnf
   repeat (first | (refine XSame.of ?_; conv => whnf) | (refine XDep.all _ _ _ _ ?_; conv => whnf))
   refine XStop.draw tabOk mixed rfl rfl ?_
   conv => whnf
   rcases Nat.eq_zero_or_pos i with h0 | h0
   · have hg : iGt (i : Int) 0 = false := by simp [iGt_eq]; omega
     repeat' (first
      | (refine And.intro ?_ ?_ <;> conv => whnf)
      | (refine XHeld.same rfl ?_; conv => whnf)
      | (refine XHeld.row rfl ?_; conv => whnf)
      | (refine XHeld.call rfl ?_; conv => whnf)
      | (refine XHeld.factCall rfl ?_; conv => whnf)
      | (refine XKeep.of ?_; conv => whnf)
      | (refine XSame.of ?_; conv => whnf)
      | (refine XDep.all _ _ _ _ ?_; conv => whnf)
      | (rw [hg]; conv => whnf)
      | (split <;> conv => whnf)
      | (refine XHeld.mk ?_ ?_; (focus (first | exact Ent.refl _ | exact Ent.left _ _ | exact Ent.of_le ⟨List.sublist_append_left _ _, fun w h => h⟩ | exact Ent.of_le ⟨List.Sublist.refl _, fun w h => h.1⟩)); conv => whnf))
     all_goals first
      | (refine ⟨_, Ent.refl _, ?_⟩; rw [allI_false hlt' (by rw [hok]; ((try subst heq1); (try subst heq2); (try subst heq3); simp only [cond_true, cond_false, iLt_eq, iLe_eq, iGt_eq, iGe_eq, iEq_eq, iNe_eq, decide_eq_true_eq, decide_eq_false_iff_not, beq_iff_eq, bne_iff_ne, ne_eq, beq_eq_false_iff_ne, bne_eq_false_iff_eq, Bool.not_eq_true, Bool.not_eq_false, Bool.and_true, Bool.true_and, Bool.and_false, Bool.false_and, Bool.or_true, Bool.or_false, Bool.true_or, Bool.false_or, Bool.not_eq_true', Bool.not_eq_false', Bool.not_true, Bool.not_false] at *; first | omega | (simp_all; done) | (simp_all; omega)))]; first | done | rfl)
      | (
       refine ⟨i + 1, ⟨⟨hlt', hnext (by rw [hok]; ((try subst heq1); (try subst heq2); (try subst heq3); simp only [cond_true, cond_false, iLt_eq, iLe_eq, iGt_eq, iGe_eq, iEq_eq, iNe_eq, decide_eq_true_eq, decide_eq_false_iff_not, beq_iff_eq, bne_iff_ne, ne_eq, beq_eq_false_iff_ne, bne_eq_false_iff_eq, Bool.not_eq_true, Bool.not_eq_false, Bool.and_true, Bool.true_and, Bool.and_false, Bool.false_and, Bool.or_true, Bool.or_false, Bool.true_or, Bool.false_or, Bool.not_eq_true', Bool.not_eq_false', Bool.not_true, Bool.not_false] at *; first | omega | (simp_all; done) | (simp_all; omega)))⟩, by dsimp only; omega⟩, ?_, ?_, Ent.refl _⟩; (conv => whnf); refine ⟨?_, rfl⟩; repeat (first | exact FLe.nil | refine FLe.any ?_ | refine FLe.cons ?_ | refine FLe.eq (by rw [wrap_i64 (by omega)]; rfl) ?_)
       (conv => whnf); exact ⟨⟨rfl, rfl⟩, trivial⟩)
   · have hg : iGt (i : Int) 0 = true := by simp [iGt_eq]; omega
     have hj : i - 1 < l.length := by omega
     have hw1 : IntKind.i64.wrap ((i : Int) - 1) = ((i - 1 : Nat) : Int) := by
      rw [wrap_i64 (by omega)]
      omega
     rw [bang hj] at hok
     repeat' (first
      | (refine And.intro ?_ ?_ <;> conv => whnf)
      | (refine XHeld.same rfl ?_; conv => whnf)
      | (refine XHeld.row rfl ?_; conv => whnf)
      | (refine XHeld.call rfl ?_; conv => whnf)
      | (refine XHeld.factCall rfl ?_; conv => whnf)
      | (refine XKeep.of ?_; conv => whnf)
      | (refine XSame.of ?_; conv => whnf)
      | (refine XDep.all _ _ _ _ ?_; conv => whnf)
      | (rw [hg]; conv => whnf)
      | (refine XRead.index tabOk (t := 123) rfl rfl rfl (by omega) (by omega) hh.nil fun ad2 had2 => ?_; conv => whnf)
      | (refine XRead.loadF tabOk (t := 3) rfl rfl (ad := ad2) (k := (i - 1) * 2) (L := l.flatMap alC) (v := .int .i64 l[i - 1].id) (.fact fun w hw => had2 ▸ hw) (fun hs => by rw [hw1]; rfl) (fm_at (cf := alC) (z := 2) (fun _ => rfl) hj (k := 0) (by decide)) ?_; conv => whnf)
      | (split <;> conv => whnf)
      | (refine XHeld.mk ?_ ?_; (focus (first | exact Ent.refl _ | exact Ent.left _ _ | exact Ent.of_le ⟨List.sublist_append_left _ _, fun w h => h⟩ | exact Ent.of_le ⟨List.Sublist.refl _, fun w h => h.1⟩)); conv => whnf))
     all_goals first
      | (refine ⟨_, Ent.refl _, ?_⟩; rw [allI_false hlt' (by rw [hok]; ((try subst heq1); (try subst heq2); (try subst heq3); simp only [cond_true, cond_false, iLt_eq, iLe_eq, iGt_eq, iGe_eq, iEq_eq, iNe_eq, decide_eq_true_eq, decide_eq_false_iff_not, beq_iff_eq, bne_iff_ne, ne_eq, beq_eq_false_iff_ne, bne_eq_false_iff_eq, Bool.not_eq_true, Bool.not_eq_false, Bool.and_true, Bool.true_and, Bool.and_false, Bool.false_and, Bool.or_true, Bool.or_false, Bool.true_or, Bool.false_or, Bool.not_eq_true', Bool.not_eq_false', Bool.not_true, Bool.not_false] at *; first | omega | (simp_all; done) | (simp_all; omega)))]; first | done | rfl)
      | (
       refine ⟨i + 1, ⟨⟨hlt', hnext (by rw [hok]; ((try subst heq1); (try subst heq2); (try subst heq3); simp only [cond_true, cond_false, iLt_eq, iLe_eq, iGt_eq, iGe_eq, iEq_eq, iNe_eq, decide_eq_true_eq, decide_eq_false_iff_not, beq_iff_eq, bne_iff_ne, ne_eq, beq_eq_false_iff_ne, bne_eq_false_iff_eq, Bool.not_eq_true, Bool.not_eq_false, Bool.and_true, Bool.true_and, Bool.and_false, Bool.false_and, Bool.or_true, Bool.or_false, Bool.true_or, Bool.false_or, Bool.not_eq_true', Bool.not_eq_false', Bool.not_true, Bool.not_false] at *; first | omega | (simp_all; done) | (simp_all; omega)))⟩, by dsimp only; omega⟩, ?_, ?_, Ent.refl _⟩; (conv => whnf); refine ⟨?_, rfl⟩; repeat (first | exact FLe.nil | refine FLe.any ?_ | refine FLe.cons ?_ | refine FLe.eq (by rw [wrap_i64 (by omega)]; rfl) ?_)
       (conv => whnf); exact ⟨⟨rfl, rfl⟩, trivial⟩)
 · have hie : i = l.length := by
    simp only [iLt_eq, decide_eq_false_iff_not] at hlt
    omega
   subst hie
   conv => whnf
   repeat (first | (refine XSame.of ?_; conv => whnf) | (refine XDep.all _ _ _ _ ?_; conv => whnf))
   refine ⟨_, Ent.refl _, ?_⟩
   rw [allI_true hall, Bool.true_and]
   congr 1
   rw [Bool.eq_iff_iff]
   simp [iGe_eq, iLe_eq]
   omega

end Go.Proofs.YtakammghcodmgaaGreatDoor
namespace Go.Proofs.YtakammghcodmgaaGreatDoor
open Go Go.Sx
set_option maxRecDepth 100000
set_option maxHeartbeats 4000000
set_option linter.unusedVariables false
set_option linter.unusedSimpArgs false

structure Ti where
 owner : Int
 tag : Int
 due : Int
 deriving Inhabited
def tiC (x : Ti) : List Value := [.int .i64 x.owner, .int .i64 x.tag, .int .i64 x.due]

end Go.Proofs.YtakammghcodmgaaGreatDoor
namespace Go.Proofs.YtakammghcodmgaaGreatDoor
open Go Go.Sx
set_option maxRecDepth 100000
set_option maxHeartbeats 4000000
set_option linter.unusedVariables false
set_option linter.unusedSimpArgs false

structure Gr where
 owner : Int
 grantee : Int
 frame : Int
 rights : Int
 deriving Inhabited
def grC (x : Gr) : List Value := [.int .i64 x.owner, .int .i64 x.grantee, .int .i64 x.frame, .int .i64 x.rights]

end Go.Proofs.YtakammghcodmgaaGreatDoor
namespace Go.Proofs.YtakammghcodmgaaGreatDoor
open Go Go.Sx
set_option maxRecDepth 100000
set_option maxHeartbeats 4000000
set_option linter.unusedVariables false
set_option linter.unusedSimpArgs false

def intV (x : Int) : Value := .int .i64 x

end Go.Proofs.YtakammghcodmgaaGreatDoor
namespace Go.Proofs.YtakammghcodmgaaGreatDoor
open Go Go.Sx
set_option maxRecDepth 100000
set_option maxHeartbeats 4000000
set_option linter.unusedVariables false
set_option linter.unusedSimpArgs false

theorem indexQ_spec (x : Int) (l : List Int) (h : Hd) (hh : h.Ok l.length) (hl : l.length ≤ 140737488355328) :
 PureSpec Tryz.prog 214 [h.v l.length, .int .i64 x] (fun w => RowAt w h.a (l.map intV)) (fun v F => v = .int .i64 (fint (l.findIdx? fun y => x == y))) := by
 refine PureSpec.of_xc tabOk Tryz.func214 rfl (by decide) (n := Tryz.f214.ntmps - 2) rfl rfl fun w0 av => ?_
 conv => whnf
 refine XStop.loop tabOk (ι := Nat) ([5] ++ List.range' 8 11) (fun k => k ≤ l.length ∧ ∀ j (hj : j < l.length), j < k → (x == l[j]) = false)
  (fun x => [(8, .v (.int .i64 (x : Int)))]) (fun _ => []) (fun _ => ⟨fun w => RowAt w h.a (l.map intV), []⟩)
  (fun x => l.length - x) 0 ⟨Nat.zero_le _, fun j hj h => by omega⟩ ?_ rfl (Ent.refl _) fun i hi => ?_
 · conv => whnf
   repeat (first | exact FLe.nil | refine FLe.any ?_ | refine FLe.cons ?_)
 obtain ⟨hi, hall⟩ := hi
 conv => whnf
 refine XIf.split (fun hlt => ?_) (fun hlt => ?_)
 · have hlt' : i < l.length := by
    simp only [iLt_eq, decide_eq_true_eq] at hlt
    omega
   conv => whnf
   repeat (first | (refine XSame.of ?_; conv => whnf) | (refine XDep.all _ _ _ _ ?_; conv => whnf))
   refine XVal.of_read (XRead.index tabOk (t := 115) rfl rfl rfl (by omega) (by omega) hh.nil fun ad had => ?_)
   conv => whnf
   repeat (first | (refine XSame.of ?_; conv => whnf) | (refine XDep.all _ _ _ _ ?_; conv => whnf))
   refine XVal.of_read (XRead.loadF tabOk (t := 3) rfl rfl (ad := ad) (k := i) (L := l.map intV) (v := intV l[i]) (.fact fun w hw => had ▸ hw) (fun hs => by rw [Nat.mul_one]; rfl) (by rw [List.getElem?_map, List.getElem?_eq_getElem hlt']; rfl) ?_)
   conv => whnf
   repeat (first | (refine XSame.of ?_; conv => whnf) | (refine XDep.all _ _ _ _ ?_; conv => whnf))
   rw [iEq_eq]
   generalize hq : (x == l[i]) = q
   cases q
   · conv => whnf
     repeat (first | (refine XSame.of ?_; conv => whnf) | (refine XDep.all _ _ _ _ ?_; conv => whnf))
     refine ⟨i + 1, ⟨⟨hlt', fun j hj h => ?_⟩, by dsimp only; omega⟩, ?_, ?_, Ent.refl _⟩
     · rcases Nat.lt_or_eq_of_le (Nat.lt_succ_iff.1 h) with h5 | h5
       · exact hall j hj h5
       · subst h5
         exact hq
     · conv => whnf
       refine ⟨?_, rfl⟩
       repeat (first | exact FLe.nil | refine FLe.any ?_ | refine FLe.cons ?_ | refine FLe.eq (by rw [wrap_i64 (by omega)]; rfl) ?_)
     · conv => whnf
       exact trivial
   · conv => whnf
     repeat (first | (refine XSame.of ?_; conv => whnf) | (refine XDep.all _ _ _ _ ?_; conv => whnf))
     refine ⟨_, Ent.refl _, ?_⟩
     have : (l.findIdx? fun y => x == y) = some i := by
      rw [List.findIdx?_eq_some_iff_getElem]
      exact ⟨hlt', hq, fun j hj => by simpa using hall j (by omega) hj⟩
     rw [this]
     rfl
 · have hie : i = l.length := by
    simp only [iLt_eq, decide_eq_false_iff_not] at hlt
    omega
   subst hie
   conv => whnf
   repeat (first | (refine XSame.of ?_; conv => whnf) | (refine XDep.all _ _ _ _ ?_; conv => whnf))
   refine ⟨_, Ent.refl _, ?_⟩
   have : (l.findIdx? fun y => x == y) = none := by
    rw [List.findIdx?_eq_none_iff]
    intro y hy
    obtain ⟨j, hj, rfl⟩ := List.getElem_of_mem hy
    simpa using hall j hj hj
   rw [this]
   rfl

theorem hasQ_spec (x : Int) (l : List Int) (h : Hd) (hh : h.Ok l.length) (hl : l.length ≤ 140737488355328) :
 PureSpec Tryz.prog 158 [h.v l.length, .int .i64 x] (fun w => RowAt w h.a (l.map intV)) (fun v F => v = .bool (l.any fun y => x == y)) := by
 have hi := indexQ_spec x l h hh hl
 have hv := fint_any l fun y => x == y
 generalize fint (l.findIdx? fun y => x == y) = j at *
 refine PureSpec.of_xc tabOk Tryz.func158 rfl (by decide) (n := Tryz.f158.ntmps - 2) rfl rfl fun w0 av => ?_
 conv => whnf
 repeat (first | (refine XSame.of ?_; conv => whnf) | (refine XDep.all _ _ _ _ ?_; conv => whnf))
 refine XCall.val hi (fun w hw => hw) (fun v D hv => ?_)
 subst hv
 conv => whnf
 repeat (first | (refine XSame.of ?_; conv => whnf) | (refine XDep.all _ _ _ _ ?_; conv => whnf))
 exact ⟨_, Ent.refl _, by rw [← hv, iGe_eq]⟩

end Go.Proofs.YtakammghcodmgaaGreatDoor
namespace Go.Proofs.YtakammghcodmgaaGreatDoor
open Go Go.Sx
set_option maxRecDepth 100000
set_option maxHeartbeats 4000000
set_option linter.unusedVariables false
set_option linter.unusedSimpArgs false

end Go.Proofs.YtakammghcodmgaaGreatDoor
namespace Go.Proofs.YtakammghcodmgaaGreatDoor
open Go Go.Sx
set_option maxRecDepth 100000
set_option maxHeartbeats 4000000
set_option linter.unusedVariables false
set_option linter.unusedSimpArgs false

end Go.Proofs.YtakammghcodmgaaGreatDoor
namespace Go.Proofs.YtakammghcodmgaaGreatDoor
open Go Go.Sx
set_option maxRecDepth 100000
set_option maxHeartbeats 4000000
set_option linter.unusedVariables false
set_option linter.unusedSimpArgs false

def tagD (t : Int) : Bool := iGe t 2 && iEq (Int.tmod t 2) 0
def tagR (t : Int) : Bool := iGe t 1 && iEq (Int.tmod t 2) 1
/-- Tags of a channel out (op 0) and in. -/
def tagL (t op : Int) : Bool := if iEq op 0 then tagD t else tagR t

theorem diskTag_spec (t : Int) : PureSpec Tryz.prog 183 [.int .i64 t] (fun _ => True) (fun v F => v = .bool (tagD t)) := by
 refine PureSpec.of_xc tabOk Tryz.func183 rfl (by decide) (n := Tryz.f183.ntmps - 1) rfl rfl fun w0 av => ?_
 conv => whnf
 repeat (first | (refine XSame.of ?_; conv => whnf) | (refine XDep.all _ _ _ _ ?_; conv => whnf))
 refine ⟨_, Ent.refl _, ?_⟩
 unfold tagD
 cases iGe t 2 <;> rfl

theorem linkTag_spec (t op : Int) : PureSpec Tryz.prog 185 [.int .i64 t, .int .i64 op] (fun _ => True) (fun v F => v = .bool (tagL t op)) := by
 refine PureSpec.of_xc tabOk Tryz.func185 rfl (by decide) (n := Tryz.f185.ntmps - 2) rfl rfl fun w0 av => ?_
 conv => whnf
 repeat (first | (refine XSame.of ?_; conv => whnf) | (refine XDep.all _ _ _ _ ?_; conv => whnf))
 refine XIf.split (fun h => ?_) (fun h => ?_)
 all_goals
  conv => whnf
  repeat (first | (refine XSame.of ?_; conv => whnf) | (refine XDep.all _ _ _ _ ?_; conv => whnf))
  refine ⟨_, Ent.refl _, ?_⟩
  unfold tagL tagD tagR
  rw [h]
 · cases iGe t 2 <;> rfl
 · cases iGe t 1 <;> rfl

theorem serialTag_spec (t op : Int) : PureSpec Tryz.prog 189 [.int .i64 t, .int .i64 op] (fun _ => True) (fun v F => v = .bool (tagL t op)) := by
 refine PureSpec.of_xc tabOk Tryz.func189 rfl (by decide) (n := Tryz.f189.ntmps - 2) rfl rfl fun w0 av => ?_
 conv => whnf
 repeat (first | (refine XSame.of ?_; conv => whnf) | (refine XDep.all _ _ _ _ ?_; conv => whnf))
 refine XIf.split (fun h => ?_) (fun h => ?_)
 all_goals
  conv => whnf
  repeat (first | (refine XSame.of ?_; conv => whnf) | (refine XDep.all _ _ _ _ ?_; conv => whnf))
  refine ⟨_, Ent.refl _, ?_⟩
  unfold tagL tagD tagR
  rw [h]
 · cases iGe t 2 <;> rfl
 · cases iGe t 1 <;> rfl

structure Chn where
 opn : Bool
 tag : Int
 op : Int
 place : Int
 ch : Hd
 cn : Nat
 left : Int
 ltag : Int
 lans : Int
 lh : Hd
 ln : Nat

instance : Inhabited Chn := ⟨⟨false, 0, 0, 0, Hd.nil, 0, 0, 0, 0, Hd.nil, 0⟩⟩

def dchC (x : Chn) : List Value := [.bool x.opn, .int .i64 x.tag, .int .i64 x.op, .int .i64 x.place, x.ch.v x.cn, .int .i64 x.left, .int .i64 x.ltag, .int .i64 x.lans, x.lh.v x.ln]
def lchC (x : Chn) : List Value := [.bool x.opn, .int .i64 x.tag, .int .i64 x.op, .int .i64 x.place, x.ch.v x.cn, .int .i64 x.ltag, .int .i64 x.lans, x.lh.v x.ln]

def chOk (T : Int → Bool) (dk : Bool) (x : Chn) : Bool :=
 (iEq x.ltag 0 || T x.ltag) && (if x.opn then T x.tag && (iGe x.tag x.ltag && (!dk || (iGe x.left 1 && iLe x.left 3)))
  else (!dk || iEq x.left 0) && (iEq x.tag 0 && (iEq x.op 0 && (iEq x.place 0 && decide (x.cn = 0)))))

theorem diskCh_spec (x : Chn) : PureSpec Tryz.prog 112 [.agg ⟨dchC x⟩] (fun _ => True) (fun v F => v = .bool (chOk tagD true x)) := by
 have h1 := diskTag_spec x.ltag
 have h2 := diskTag_spec x.tag
 unfold chOk
 generalize tagD x.ltag = q1 at *
 generalize tagD x.tag = q2 at *
 refine PureSpec.of_xc tabOk Tryz.func112 rfl (by decide) (n := Tryz.f112.ntmps - 1) rfl rfl fun w0 av => ?_
 conv => whnf
 repeat (first | (refine XSame.of ?_; conv => whnf) | (refine XDep.all _ _ _ _ ?_; conv => whnf))
 intro b1
 conv => whnf
 repeat (first | (refine XSame.of ?_; conv => whnf) | (refine XDep.all _ _ _ _ ?_; conv => whnf))
 repeat' (first
  | (refine And.intro ?_ ?_ <;> conv => whnf)
  | (refine XHeld.same rfl ?_; conv => whnf)
  | (refine XHeld.row rfl ?_; conv => whnf)
  | (refine XHeld.call rfl ?_; conv => whnf)
  | (refine XHeld.factCall rfl ?_; conv => whnf)
  | (refine XKeep.of ?_; conv => whnf)
  | (refine XSame.of ?_; conv => whnf)
  | (refine XDep.all _ _ _ _ ?_; conv => whnf)
  | (refine XCall.val h1 (fun w hw => trivial) (fun v D hv => ?_); subst hv; conv => whnf)
  | (refine XCall.val h2 (fun w hw => trivial) (fun v D hv => ?_); subst hv; conv => whnf)
  | (cases q1 <;> conv => whnf)
  | (cases q2 <;> conv => whnf)
  | (split <;> conv => whnf)
  | (refine XHeld.mk ?_ ?_; (focus (first | exact Ent.refl _ | exact Ent.left _ _ | exact Ent.of_le ⟨List.sublist_append_left _ _, fun w h => h⟩ | exact Ent.of_le ⟨List.Sublist.refl _, fun w h => h.1⟩)); conv => whnf))
 all_goals refine ⟨_, Ent.refl _, ?_⟩
 all_goals first | rfl | (congr 1; done) | (congr 1; rw [Bool.eq_iff_iff]; simp_all [iGe_eq, iLt_eq, iLe_eq, iGt_eq, iEq_eq, iNe_eq, and_assoc]; done) | (congr 1; rw [Bool.eq_iff_iff]; simp_all [iGe_eq, iLt_eq, iLe_eq, iGt_eq, iEq_eq, iNe_eq, and_assoc]; omega) | (congr 1; rw [Bool.eq_iff_iff]; (try cases q1) <;> (try cases q2) <;> (try cases q3) <;> (try simp_all [iGe_eq, iLt_eq, iLe_eq, iGt_eq, iEq_eq, iNe_eq, and_assoc]) <;> (try omega); done)

theorem linkCh_spec (x : Chn) (op : Int) : PureSpec Tryz.prog 120 [.agg ⟨lchC x⟩, .int .i64 op] (fun _ => True) (fun v F => v = .bool (chOk (tagL · op) false x)) := by
 have h1 := linkTag_spec x.ltag op
 have h2 := linkTag_spec x.tag op
 unfold chOk
 dsimp only
 generalize tagL x.ltag op = q1 at *
 generalize tagL x.tag op = q2 at *
 refine PureSpec.of_xc tabOk Tryz.func120 rfl (by decide) (n := Tryz.f120.ntmps - 2) rfl rfl fun w0 av => ?_
 conv => whnf
 repeat (first | (refine XSame.of ?_; conv => whnf) | (refine XDep.all _ _ _ _ ?_; conv => whnf))
 intro b1
 conv => whnf
 repeat (first | (refine XSame.of ?_; conv => whnf) | (refine XDep.all _ _ _ _ ?_; conv => whnf))
 repeat' (first
  | (refine And.intro ?_ ?_ <;> conv => whnf)
  | (refine XHeld.same rfl ?_; conv => whnf)
  | (refine XHeld.row rfl ?_; conv => whnf)
  | (refine XHeld.call rfl ?_; conv => whnf)
  | (refine XHeld.factCall rfl ?_; conv => whnf)
  | (refine XKeep.of ?_; conv => whnf)
  | (refine XSame.of ?_; conv => whnf)
  | (refine XDep.all _ _ _ _ ?_; conv => whnf)
  | (refine XCall.val h1 (fun w hw => trivial) (fun v D hv => ?_); subst hv; conv => whnf)
  | (refine XCall.val h2 (fun w hw => trivial) (fun v D hv => ?_); subst hv; conv => whnf)
  | (cases q1 <;> conv => whnf)
  | (cases q2 <;> conv => whnf)
  | (split <;> conv => whnf)
  | (refine XHeld.mk ?_ ?_; (focus (first | exact Ent.refl _ | exact Ent.left _ _ | exact Ent.of_le ⟨List.sublist_append_left _ _, fun w h => h⟩ | exact Ent.of_le ⟨List.Sublist.refl _, fun w h => h.1⟩)); conv => whnf))
 all_goals refine ⟨_, Ent.refl _, ?_⟩
 all_goals first | rfl | (congr 1; done) | (congr 1; rw [Bool.eq_iff_iff]; simp_all [iGe_eq, iLt_eq, iLe_eq, iGt_eq, iEq_eq, iNe_eq, and_assoc]; done) | (congr 1; rw [Bool.eq_iff_iff]; simp_all [iGe_eq, iLt_eq, iLe_eq, iGt_eq, iEq_eq, iNe_eq, and_assoc]; omega) | (congr 1; rw [Bool.eq_iff_iff]; (try cases q1) <;> (try cases q2) <;> (try cases q3) <;> (try simp_all [iGe_eq, iLt_eq, iLe_eq, iGt_eq, iEq_eq, iNe_eq, and_assoc]) <;> (try omega); done)

theorem serialCh_spec (x : Chn) (op : Int) : PureSpec Tryz.prog 125 [.agg ⟨lchC x⟩, .int .i64 op] (fun _ => True) (fun v F => v = .bool (chOk (tagL · op) false x)) := by
 have h1 := serialTag_spec x.ltag op
 have h2 := serialTag_spec x.tag op
 unfold chOk
 dsimp only
 generalize tagL x.ltag op = q1 at *
 generalize tagL x.tag op = q2 at *
 refine PureSpec.of_xc tabOk Tryz.func125 rfl (by decide) (n := Tryz.f125.ntmps - 2) rfl rfl fun w0 av => ?_
 conv => whnf
 repeat (first | (refine XSame.of ?_; conv => whnf) | (refine XDep.all _ _ _ _ ?_; conv => whnf))
 intro b1
 conv => whnf
 repeat (first | (refine XSame.of ?_; conv => whnf) | (refine XDep.all _ _ _ _ ?_; conv => whnf))
 repeat' (first
  | (refine And.intro ?_ ?_ <;> conv => whnf)
  | (refine XHeld.same rfl ?_; conv => whnf)
  | (refine XHeld.row rfl ?_; conv => whnf)
  | (refine XHeld.call rfl ?_; conv => whnf)
  | (refine XHeld.factCall rfl ?_; conv => whnf)
  | (refine XKeep.of ?_; conv => whnf)
  | (refine XSame.of ?_; conv => whnf)
  | (refine XDep.all _ _ _ _ ?_; conv => whnf)
  | (refine XCall.val h1 (fun w hw => trivial) (fun v D hv => ?_); subst hv; conv => whnf)
  | (refine XCall.val h2 (fun w hw => trivial) (fun v D hv => ?_); subst hv; conv => whnf)
  | (cases q1 <;> conv => whnf)
  | (cases q2 <;> conv => whnf)
  | (split <;> conv => whnf)
  | (refine XHeld.mk ?_ ?_; (focus (first | exact Ent.refl _ | exact Ent.left _ _ | exact Ent.of_le ⟨List.sublist_append_left _ _, fun w h => h⟩ | exact Ent.of_le ⟨List.Sublist.refl _, fun w h => h.1⟩)); conv => whnf))
 all_goals refine ⟨_, Ent.refl _, ?_⟩
 all_goals first | rfl | (congr 1; done) | (congr 1; rw [Bool.eq_iff_iff]; simp_all [iGe_eq, iLt_eq, iLe_eq, iGt_eq, iEq_eq, iNe_eq, and_assoc]; done) | (congr 1; rw [Bool.eq_iff_iff]; simp_all [iGe_eq, iLt_eq, iLe_eq, iGt_eq, iEq_eq, iNe_eq, and_assoc]; omega) | (congr 1; rw [Bool.eq_iff_iff]; (try cases q1) <;> (try cases q2) <;> (try cases q3) <;> (try simp_all [iGe_eq, iLt_eq, iLe_eq, iGt_eq, iEq_eq, iNe_eq, and_assoc]) <;> (try omega); done)

end Go.Proofs.YtakammghcodmgaaGreatDoor
namespace Go.Proofs.YtakammghcodmgaaGreatDoor
open Go Go.Sx
set_option maxRecDepth 100000
set_option maxHeartbeats 4000000
set_option linter.unusedVariables false
set_option linter.unusedSimpArgs false

/-- A byte string of which only the length counts. -/
structure Bs where
 h : Hd
 n : Nat

instance : Inhabited Bs := ⟨⟨Hd.nil, 0⟩⟩

def bsV (x : Bs) : Value := x.h.v x.n
theorem bsV_one (x : Bs) : oneCell (bsV x) = true := rfl

theorem fraV1_spec (x : Bs) : PureSpec Tryz.prog 244 [bsV x] (fun _ => True) (fun v F => v = .bool (iNe (x.n : Int) 128)) := by
 refine PureSpec.of_xc tabOk Tryz.func244 rfl (by decide) (n := Tryz.f244.ntmps - 1) rfl rfl fun w0 av => ?_
 conv => whnf
 repeat (first | (refine XSame.of ?_; conv => whnf) | (refine XDep.all _ _ _ _ ?_; conv => whnf))
 exact ⟨_, Ent.refl _, rfl⟩

theorem diskV1_spec (x : Bs) : PureSpec Tryz.prog 114 [bsV x] (fun _ => True) (fun v F => v = .bool (iNe (x.n : Int) 128)) := by
 refine PureSpec.of_xc tabOk Tryz.func114 rfl (by decide) (n := Tryz.f114.ntmps - 1) rfl rfl fun w0 av => ?_
 conv => whnf
 repeat (first | (refine XSame.of ?_; conv => whnf) | (refine XDep.all _ _ _ _ ?_; conv => whnf))
 exact ⟨_, Ent.refl _, rfl⟩

def pagesOk (n : Nat) (l : List Bs) : Bool := decide (l.length = n) && !(l.any fun x => iNe (x.n : Int) 128)

theorem framesValid_spec (l : List Bs) (h : Hd) (hh : h.Ok l.length) (hl : l.length ≤ 140737488355328) :
 PureSpec Tryz.prog 190 [.agg ⟨[h.v l.length]⟩] (fun w => RowAt w h.a (l.map bsV)) (fun v F => v = .bool (pagesOk 96 l)) := by
 have hc := byt_has bsV bsV_one 244 (fun _ => True) (fun x => iNe (x.n : Int) 128) l h hh hl (fun e _ => fraV1_spec e)
 unfold pagesOk
 generalize (l.any fun x => iNe (x.n : Int) 128) = q1 at *
 refine PureSpec.of_xc tabOk Tryz.func190 rfl (by decide) (n := Tryz.f190.ntmps - 1) rfl rfl fun w0 av => ?_
 conv => whnf
 repeat (first | (refine XSame.of ?_; conv => whnf) | (refine XDep.all _ _ _ _ ?_; conv => whnf))
 intro b1
 conv => whnf
 repeat (first | (refine XSame.of ?_; conv => whnf) | (refine XDep.all _ _ _ _ ?_; conv => whnf))
 repeat' (first
  | (refine And.intro ?_ ?_ <;> conv => whnf)
  | (refine XHeld.same rfl ?_; conv => whnf)
  | (refine XHeld.row rfl ?_; conv => whnf)
  | (refine XHeld.call rfl ?_; conv => whnf)
  | (refine XHeld.factCall rfl ?_; conv => whnf)
  | (refine XKeep.of ?_; conv => whnf)
  | (refine XSame.of ?_; conv => whnf)
  | (refine XDep.all _ _ _ _ ?_; conv => whnf)
  | (split <;> conv => whnf)
  | (refine XCall.val hc (fun w hw => ⟨hw, trivial⟩) (fun v D hv => ?_); subst hv; conv => whnf)
  | (refine XHeld.mk ?_ ?_; (focus (first | exact Ent.refl _ | exact Ent.left _ _ | exact Ent.of_le ⟨List.sublist_append_left _ _, fun w h => h⟩ | exact Ent.of_le ⟨List.Sublist.refl _, fun w h => h.1⟩)); conv => whnf))
 all_goals refine ⟨_, Ent.refl _, ?_⟩
 all_goals first | rfl | (congr 1; done) | (congr 1; rw [Bool.eq_iff_iff]; simp_all [iGe_eq, iLt_eq, iLe_eq, iGt_eq, iEq_eq, iNe_eq, and_assoc]; done) | (congr 1; rw [Bool.eq_iff_iff]; simp_all [iGe_eq, iLt_eq, iLe_eq, iGt_eq, iEq_eq, iNe_eq, and_assoc]; omega) | (congr 1; rw [Bool.eq_iff_iff]; (try cases q1) <;> (try cases q2) <;> (try cases q3) <;> (try simp_all [iGe_eq, iLt_eq, iLe_eq, iGt_eq, iEq_eq, iNe_eq, and_assoc]) <;> (try omega); done)

theorem diskValid_spec (l : List Bs) (h : Hd) (hh : h.Ok l.length) (hl : l.length ≤ 140737488355328) (x : Chn) :
 PureSpec Tryz.prog 60 [.agg ⟨h.v l.length :: dchC x⟩] (fun w => RowAt w h.a (l.map bsV)) (fun v F => v = .bool (pagesOk 160 l && chOk tagD true x)) := by
 have hc := byt_has bsV bsV_one 114 (fun _ => True) (fun x => iNe (x.n : Int) 128) l h hh hl (fun e _ => diskV1_spec e)
 have h2 := diskCh_spec x
 unfold pagesOk
 generalize (l.any fun x => iNe (x.n : Int) 128) = q1 at *
 generalize chOk tagD true x = q2 at *
 refine PureSpec.of_xc tabOk Tryz.func60 rfl (by decide) (n := Tryz.f60.ntmps - 1) rfl rfl fun w0 av => ?_
 conv => whnf
 repeat (first | (refine XSame.of ?_; conv => whnf) | (refine XDep.all _ _ _ _ ?_; conv => whnf))
 intro b1
 conv => whnf
 repeat (first | (refine XSame.of ?_; conv => whnf) | (refine XDep.all _ _ _ _ ?_; conv => whnf))
 repeat' (first
  | (refine And.intro ?_ ?_ <;> conv => whnf)
  | (refine XHeld.same rfl ?_; conv => whnf)
  | (refine XHeld.row rfl ?_; conv => whnf)
  | (refine XHeld.call rfl ?_; conv => whnf)
  | (refine XHeld.factCall rfl ?_; conv => whnf)
  | (refine XKeep.of ?_; conv => whnf)
  | (refine XSame.of ?_; conv => whnf)
  | (refine XDep.all _ _ _ _ ?_; conv => whnf)
  | (split <;> conv => whnf)
  | (refine XCall.val hc (fun w hw => ⟨hw, trivial⟩) (fun v D hv => ?_); subst hv; conv => whnf)
  | (refine XCall.val h2 (fun w hw => trivial) (fun v D hv => ?_); subst hv; conv => whnf)
  | (refine XHeld.mk ?_ ?_; (focus (first | exact Ent.refl _ | exact Ent.left _ _ | exact Ent.of_le ⟨List.sublist_append_left _ _, fun w h => h⟩ | exact Ent.of_le ⟨List.Sublist.refl _, fun w h => h.1⟩)); conv => whnf))
 all_goals refine ⟨_, Ent.refl _, ?_⟩
 all_goals first | rfl | (congr 1; done) | (congr 1; rw [Bool.eq_iff_iff]; simp_all [iGe_eq, iLt_eq, iLe_eq, iGt_eq, iEq_eq, iNe_eq, and_assoc]; done) | (congr 1; rw [Bool.eq_iff_iff]; simp_all [iGe_eq, iLt_eq, iLe_eq, iGt_eq, iEq_eq, iNe_eq, and_assoc]; omega) | (congr 1; rw [Bool.eq_iff_iff]; (try cases q1) <;> (try cases q2) <;> (try cases q3) <;> (try simp_all [iGe_eq, iLt_eq, iLe_eq, iGt_eq, iEq_eq, iNe_eq, and_assoc]) <;> (try omega); done)

end Go.Proofs.YtakammghcodmgaaGreatDoor
namespace Go.Proofs.YtakammghcodmgaaGreatDoor
open Go Go.Sx
set_option maxRecDepth 100000
set_option maxHeartbeats 4000000
set_option linter.unusedVariables false
set_option linter.unusedSimpArgs false

structure Ser where
 inp : Bs
 at' : Int
 pause : Int
 got : Bs
 out : Bs
 co : Chn
 ci : Chn

instance : Inhabited Ser := ⟨⟨default, 0, 0, default, default, default, default⟩⟩

def serC (x : Ser) : List Value := bsV x.inp :: .int .i64 x.at' :: .int .i64 x.pause :: bsV x.got :: bsV x.out :: (lchC x.co ++ lchC x.ci)
def serOk (x : Ser) : Bool := decide (x.inp.n ≤ 4000 ∧ 0 ≤ x.at' ∧ x.at' ≤ x.inp.n ∧ 0 ≤ x.pause ∧ x.pause < 128 ∧ x.got.n ≤ x.at' ∧ x.out.n ≤ 100000) && (chOk (tagL · 0) false x.co && chOk (tagL · 1) false x.ci)

theorem serialValid_spec (x : Ser) : PureSpec Tryz.prog 68 [.agg ⟨serC x⟩] (fun _ => True) (fun v F => v = .bool (serOk x)) := by
 have h1 := serialCh_spec x.co 0
 have h2 := serialCh_spec x.ci 1
 unfold serOk
 generalize chOk (tagL · 0) false x.co = q1 at *
 generalize chOk (tagL · 1) false x.ci = q2 at *
 refine PureSpec.of_xc tabOk Tryz.func68 rfl (by decide) (n := Tryz.f68.ntmps - 1) rfl rfl fun w0 av => ?_
 conv => whnf
 repeat (first | (refine XSame.of ?_; conv => whnf) | (refine XDep.all _ _ _ _ ?_; conv => whnf))
 refine XVal.boxRow fun b1 => ?_
 conv => whnf
 repeat (first | (refine XSame.of ?_; conv => whnf) | (refine XDep.all _ _ _ _ ?_; conv => whnf))
 repeat' (first
  | (refine And.intro ?_ ?_ <;> conv => whnf)
  | (refine XHeld.same rfl ?_; conv => whnf)
  | (refine XHeld.row rfl ?_; conv => whnf)
  | (refine XHeld.call rfl ?_; conv => whnf)
  | (refine XHeld.factCall rfl ?_; conv => whnf)
  | (refine XKeep.of ?_; conv => whnf)
  | (refine XSame.of ?_; conv => whnf)
  | (refine XDep.all _ _ _ _ ?_; conv => whnf)
  | (refine XVal.of_read (XRead.loadF tabOk rfl rfl (ad := ⟨b1, 0, none⟩) (k := _) (L := serC x) (v := _) (Sees.row (by simp [Value.cells])) (fun _ => rfl) rfl ?_); conv => whnf)
  | (refine XVal.of_read (XRead.loads tabOk rfl rfl (ad := ⟨b1, 0, none⟩) (k := _) (L := serC x) (m := _) (Sees.row (by simp [Value.cells])) rfl rfl rfl ?_); conv => whnf)
  | (refine XCall.val h1 (fun w hw => trivial) (fun v D hv => ?_); subst hv; conv => whnf)
  | (refine XCall.val h2 (fun w hw => trivial) (fun v D hv => ?_); subst hv; conv => whnf)
  | (split <;> conv => whnf)
  | (refine XHeld.mk ?_ ?_; (focus (first | exact Ent.refl _ | exact Ent.left _ _ | exact Ent.of_le ⟨List.sublist_append_left _ _, fun w h => h⟩ | exact Ent.of_le ⟨List.Sublist.refl _, fun w h => h.1⟩)); conv => whnf))
 all_goals refine ⟨_, Ent.refl _, ?_⟩
 all_goals first | rfl | (congr 1; done) | (congr 1; rw [Bool.eq_iff_iff]; simp_all [iGe_eq, iLt_eq, iLe_eq, iGt_eq, iEq_eq, iNe_eq, and_assoc]; done) | (congr 1; rw [Bool.eq_iff_iff]; simp_all [iGe_eq, iLt_eq, iLe_eq, iGt_eq, iEq_eq, iNe_eq, and_assoc]; omega) | (congr 1; rw [Bool.eq_iff_iff]; (try cases q1) <;> (try cases q2) <;> (try cases q3) <;> (try simp_all [iGe_eq, iLt_eq, iLe_eq, iGt_eq, iEq_eq, iNe_eq, and_assoc]) <;> (try omega); done)

theorem linkNum_spec (a : Int) : PureSpec Tryz.prog 117 [.int .i64 a] (fun _ => True) (fun v F => v = .bool (decide (0 ≤ a ∧ a ≤ 1099511627776))) := by
 refine PureSpec.of_xc tabOk Tryz.func117 rfl (by decide) (n := Tryz.f117.ntmps - 1) rfl rfl fun w0 av => ?_
 conv => whnf
 repeat (first | (refine XSame.of ?_; conv => whnf) | (refine XDep.all _ _ _ _ ?_; conv => whnf))
 exact ⟨_, Ent.refl _, by congr 1; rw [Bool.eq_iff_iff]; simp [iGe_eq, iLe_eq]⟩

theorem linkFrame_spec (x : Bs) : PureSpec Tryz.prog 118 [bsV x] (fun _ => True) (fun v F => v = .bool (decide (1 ≤ x.n ∧ x.n ≤ 128))) := by
 refine PureSpec.of_xc tabOk Tryz.func118 rfl (by decide) (n := Tryz.f118.ntmps - 1) rfl rfl fun w0 av => ?_
 conv => whnf
 repeat (first | (refine XSame.of ?_; conv => whnf) | (refine XDep.all _ _ _ _ ?_; conv => whnf))
 exact ⟨_, Ent.refl _, by congr 1; rw [Bool.eq_iff_iff]; simp [iGe_eq, iLe_eq]; omega⟩

theorem linkV1_spec (x : Bs) : PureSpec Tryz.prog 119 [bsV x] (fun _ => True) (fun v F => v = .bool (!decide (1 ≤ x.n ∧ x.n ≤ 128))) := by
 have h1 := linkFrame_spec x
 generalize decide (1 ≤ x.n ∧ x.n ≤ 128) = q1 at *
 refine PureSpec.of_xc tabOk Tryz.func119 rfl (by decide) (n := Tryz.f119.ntmps - 1) rfl rfl fun w0 av => ?_
 conv => whnf
 repeat (first | (refine XSame.of ?_; conv => whnf) | (refine XDep.all _ _ _ _ ?_; conv => whnf))
 refine XCall.val h1 (fun w hw => trivial) (fun v D hv => ?_)
 subst hv
 conv => whnf
 repeat (first | (refine XSame.of ?_; conv => whnf) | (refine XDep.all _ _ _ _ ?_; conv => whnf))
 exact ⟨_, Ent.refl _, rfl⟩

structure Fli where
 due : Int
 data : Bs

instance : Inhabited Fli := ⟨⟨0, default⟩⟩

def fliC (x : Fli) : List Value := [.int .i64 x.due, bsV x.data]

structure Lnk where
 pat : Bs
 now : Int
 sent : Int
 first : Int
 fh : Hd
 fly : List Fli
 wh : Hd
 wait : List Bs
 co : Chn
 ci : Chn

def lnkC (x : Lnk) : List Value := bsV x.pat :: .int .i64 x.now :: .int .i64 x.sent :: .int .i64 x.first :: x.fh.v x.fly.length :: x.wh.v x.wait.length :: (lchC x.co ++ lchC x.ci)
def fliOk (now : Int) (l : List Fli) (j : Nat) : Bool := decide ((1 ≤ l[j]!.data.n ∧ l[j]!.data.n ≤ 128) ∧ now < l[j]!.due ∧ l[j]!.due ≤ IntKind.i64.wrap (now + 8) ∧ (0 < j → l[j - 1]!.due ≤ l[j]!.due))
def numOk (a : Int) : Bool := decide (0 ≤ a ∧ a ≤ 1099511627776)
def lnkOk (x : Lnk) : Bool := (decide (x.pat.n ≤ 200) && numOk x.now && numOk x.sent && numOk x.first && decide (x.fly.length ≤ 400) && decide (x.wait.length ≤ 64)) &&
 (allI x.fly.length (fliOk x.now x.fly) && (!(x.wait.any fun b => !decide (1 ≤ b.n ∧ b.n ≤ 128)) && (chOk (tagL · 0) false x.co && chOk (tagL · 1) false x.ci)))

end Go.Proofs.YtakammghcodmgaaGreatDoor
namespace Go.Proofs.YtakammghcodmgaaGreatDoor
open Go Go.Sx
set_option maxRecDepth 100000
set_option maxHeartbeats 4000000
set_option linter.unusedVariables false
set_option linter.unusedSimpArgs false

theorem linkValid_spec (x : Lnk) (hh : x.fh.Ok x.fly.length) (hl : x.fly.length ≤ 140737488355328) (hwh : x.wh.Ok x.wait.length) (hwl : x.wait.length ≤ 140737488355328) :
 PureSpec Tryz.prog 63 [.agg ⟨lnkC x⟩] (fun w => RowAt w x.fh.a (x.fly.flatMap fliC) ∧ RowAt w x.wh.a (x.wait.map bsV)) (fun v F => v = .bool (lnkOk x)) := by
 obtain ⟨pat, now, sent, first, h, l, wh, wait, co, ci⟩ := x
 dsimp only at hh hl hwh hwl ⊢
 have h1 := linkCh_spec co 0
 have h2 := linkCh_spec ci 1
 have hn1 := linkNum_spec now
 have hn2 := linkNum_spec sent
 have hn3 := linkNum_spec first
 have hc := byt_has bsV bsV_one 119 (fun _ => True) (fun b => !decide (1 ≤ b.n ∧ b.n ≤ 128)) wait wh hwh hwl (fun e _ => linkV1_spec e)
 unfold lnkOk numOk
 generalize (wait.any fun b => !decide (1 ≤ b.n ∧ b.n ≤ 128)) = q4 at *
 generalize chOk (tagL · 0) false co = q5 at *
 generalize chOk (tagL · 1) false ci = q6 at *
 obtain ⟨n1, hm1⟩ : ∃ q, q = decide (0 ≤ now ∧ now ≤ 1099511627776) := ⟨_, rfl⟩
 obtain ⟨n2, hm2⟩ : ∃ q, q = decide (0 ≤ sent ∧ sent ≤ 1099511627776) := ⟨_, rfl⟩
 obtain ⟨n3, hm3⟩ : ∃ q, q = decide (0 ≤ first ∧ first ≤ 1099511627776) := ⟨_, rfl⟩
 rw [← hm1] at hn1 ⊢
 rw [← hm2] at hn2 ⊢
 rw [← hm3] at hn3 ⊢
 clear hm1 hm2 hm3
 dsimp only
 refine PureSpec.of_xc tabOk Tryz.func63 rfl (by decide) (n := Tryz.f63.ntmps - 1) rfl rfl fun w0 av => ?_
 conv => whnf
 repeat (first | (refine XSame.of ?_; conv => whnf) | (refine XDep.all _ _ _ _ ?_; conv => whnf))
 refine XVal.boxRow fun br => ?_
 conv => whnf
 repeat (first | (refine XSame.of ?_; conv => whnf) | (refine XDep.all _ _ _ _ ?_; conv => whnf))
 repeat' (first
  | (refine And.intro ?_ ?_ <;> conv => whnf)
  | (refine XHeld.same rfl ?_; conv => whnf)
  | (refine XHeld.row rfl ?_; conv => whnf)
  | (refine XHeld.call rfl ?_; conv => whnf)
  | (refine XHeld.factCall rfl ?_; conv => whnf)
  | (refine XKeep.of ?_; conv => whnf)
  | (refine XSame.of ?_; conv => whnf)
  | (refine XDep.all _ _ _ _ ?_; conv => whnf)
  | (refine XVal.of_read (XRead.loadF tabOk rfl rfl (ad := ⟨br, 0, none⟩) (k := _) (L := lnkC ⟨pat, now, sent, first, h, l, wh, wait, co, ci⟩) (v := _) (Sees.row (by simp [Value.cells])) (fun _ => rfl) rfl ?_); conv => whnf)
  | (refine XCall.val hn1 (fun w hw => trivial) (fun v D hv => ?_); subst hv; conv => whnf)
  | (refine XCall.val hn2 (fun w hw => trivial) (fun v D hv => ?_); subst hv; conv => whnf)
  | (refine XCall.val hn3 (fun w hw => trivial) (fun v D hv => ?_); subst hv; conv => whnf)
  | (split <;> conv => whnf)
  | (refine XHeld.mk ?_ ?_; (focus (first | exact Ent.refl _ | exact Ent.left _ _ | exact Ent.of_le ⟨List.sublist_append_left _ _, fun w h => h⟩ | exact Ent.of_le ⟨List.Sublist.refl _, fun w h => h.1⟩)); conv => whnf))
 all_goals try (refine ⟨_, Ent.refl _, ?_⟩; congr 1; rw [Bool.eq_iff_iff]; simp_all [iGt_eq]; first | done | omega)
 have hpre : (decide (pat.n ≤ 200) && n1 && n2 && n3 && decide (l.length ≤ 400) && decide (wait.length ≤ 64)) = true := by
  simp_all [iGt_eq]
  first | done | omega
 rw [hpre, Bool.true_and]
 refine XStop.loop tabOk (ι := Nat) ([3, 4] ++ List.range' 42 41) (fun x => x ≤ l.length ∧ ∀ j, j < x → fliOk now l j = true)
  (fun x => [(42, .v (.int .i64 (x : Int)))]) (fun _ => []) (fun _ => ⟨fun w => RowAt w h.a (l.flatMap fliC) ∧ RowAt w wh.a (wait.map bsV), [(br, Row.c (lnkC ⟨pat, now, sent, first, h, l, wh, wait, co, ci⟩))]⟩)
  (fun x => l.length - x) 0 ⟨Nat.zero_le _, fun j h => by omega⟩ ?_ rfl (Ent.of_le ⟨by simp [Value.cells], fun w hw => hw⟩) fun i hi => ?_
 · conv => whnf
   repeat (first | exact FLe.nil | refine FLe.any ?_ | refine FLe.cons ?_)
 obtain ⟨hi, hall⟩ := hi
 conv => whnf
 repeat (first | (refine XSame.of ?_; conv => whnf) | (refine XDep.all _ _ _ _ ?_; conv => whnf))
 refine XIf.split (fun hlt => ?_) (fun hlt => ?_)
 · have hlt' : i < l.length := by
    simp only [iLt_eq, decide_eq_true_eq] at hlt
    omega
   have hok : fliOk now l i = decide ((1 ≤ l[i].data.n ∧ l[i].data.n ≤ 128) ∧ now < l[i].due ∧ l[i].due ≤ IntKind.i64.wrap (now + 8) ∧ (0 < i → l[i - 1]!.due ≤ l[i].due)) := by
    unfold fliOk
    rw [bang hlt']
   have hnext : fliOk now l i = true → ∀ j, j < i + 1 → fliOk now l j = true := fun hs j hj => by
    rcases Nat.lt_or_eq_of_le (Nat.lt_succ_iff.1 hj) with h5 | h5
    · exact hall j h5
    · exact h5 ▸ hs
   have hq1 := linkFrame_spec l[i].data
   obtain ⟨q1, heq1⟩ : ∃ q, q = decide (1 ≤ l[i].data.n ∧ l[i].data.n ≤ 128) := ⟨_, rfl⟩
   rw [← heq1] at hq1
   conv => whnf
   repeat (first | (refine XSame.of ?_; conv => whnf) | (refine XDep.all _ _ _ _ ?_; conv => whnf))
   refine XVal.of_read (XRead.index tabOk (t := 83) rfl rfl rfl (by first | omega | (dsimp only; omega)) (by first | omega | (dsimp only; omega)) hh.nil fun ad had => ?_)
   conv => whnf
   repeat (first | (refine XSame.of ?_; conv => whnf) | (refine XDep.all _ _ _ _ ?_; conv => whnf))
   refine XVal.of_read (XRead.loads tabOk (t := 198) rfl rfl (ad := ad) (k := i * 2) (L := l.flatMap fliC) (m := fliC l[i]) (.fact fun w hw => had ▸ hw.1) (by simp) (fm_get (cf := fliC) (z := 2) (fun _ => rfl) hlt') rfl ?_)
   conv => whnf
   repeat (first | (refine XSame.of ?_; conv => whnf) | (refine XDep.all _ _ _ _ ?_; conv => whnf))
   intro b1
   conv => whnf
   repeat (first | (refine XSame.of ?_; conv => whnf) | (refine XDep.all _ _ _ _ ?_; conv => whnf))
   refine XStop.draw tabOk mixed rfl rfl ?_
   conv => whnf
   rcases Nat.eq_zero_or_pos i with h0 | h0
   · have hg : iGt (i : Int) 0 = false := by simp [iGt_eq]; omega
     repeat' (first
      | (refine And.intro ?_ ?_ <;> conv => whnf)
      | (refine XHeld.same rfl ?_; conv => whnf)
      | (refine XHeld.row rfl ?_; conv => whnf)
      | (refine XHeld.call rfl ?_; conv => whnf)
      | (refine XHeld.factCall rfl ?_; conv => whnf)
      | (refine XKeep.of ?_; conv => whnf)
      | (refine XSame.of ?_; conv => whnf)
      | (refine XDep.all _ _ _ _ ?_; conv => whnf)
      | (rw [hg]; conv => whnf)
      | (refine XRead.loadF tabOk rfl rfl (ad := ⟨br, 0, none⟩) (k := _) (L := lnkC ⟨pat, now, sent, first, h, l, wh, wait, co, ci⟩) (v := _) (Sees.row (by simp [Value.cells])) (fun _ => rfl) rfl ?_; conv => whnf)
      | (refine XCall.val hq1 (fun w hw => trivial) (fun v D hv => ?_); subst hv; conv => whnf)
      | (split <;> conv => whnf)
      | (refine XHeld.mk ?_ ?_; (focus (first | exact Ent.refl _ | exact Ent.left _ _ | exact Ent.of_le ⟨List.sublist_append_left _ _, fun w h => h⟩ | exact Ent.of_le ⟨List.Sublist.refl _, fun w h => h.1⟩)); conv => whnf))
     all_goals first
      | (refine ⟨_, Ent.refl _, ?_⟩; rw [allI_false hlt' (by rw [hok]; ((try subst heq1); (try subst heq2); (try subst heq3); simp only [cond_true, cond_false, iLt_eq, iLe_eq, iGt_eq, iGe_eq, iEq_eq, iNe_eq, decide_eq_true_eq, decide_eq_false_iff_not, beq_iff_eq, bne_iff_ne, ne_eq, beq_eq_false_iff_ne, bne_eq_false_iff_eq, Bool.not_eq_true, Bool.not_eq_false, Bool.and_true, Bool.true_and, Bool.and_false, Bool.false_and, Bool.or_true, Bool.or_false, Bool.true_or, Bool.false_or, Bool.not_eq_true', Bool.not_eq_false', Bool.not_true, Bool.not_false] at *; first | omega | (simp_all; done) | (simp_all; omega)))]; first | done | rfl)
      | (
       refine ⟨i + 1, ⟨⟨hlt', hnext (by rw [hok]; ((try subst heq1); (try subst heq2); (try subst heq3); simp only [cond_true, cond_false, iLt_eq, iLe_eq, iGt_eq, iGe_eq, iEq_eq, iNe_eq, decide_eq_true_eq, decide_eq_false_iff_not, beq_iff_eq, bne_iff_ne, ne_eq, beq_eq_false_iff_ne, bne_eq_false_iff_eq, Bool.not_eq_true, Bool.not_eq_false, Bool.and_true, Bool.true_and, Bool.and_false, Bool.false_and, Bool.or_true, Bool.or_false, Bool.true_or, Bool.false_or, Bool.not_eq_true', Bool.not_eq_false', Bool.not_true, Bool.not_false] at *; first | omega | (simp_all; done) | (simp_all; omega)))⟩, by dsimp only; omega⟩, ?_, ?_, Ent.refl _⟩; (conv => whnf); refine ⟨?_, rfl⟩; repeat (first | exact FLe.nil | refine FLe.any ?_ | refine FLe.cons ?_ | refine FLe.eq (by rw [wrap_i64 (by omega)]; rfl) ?_)
       (conv => whnf); exact trivial)
   · have hg : iGt (i : Int) 0 = true := by simp [iGt_eq]; omega
     have hj : i - 1 < l.length := by omega
     have hw1 : IntKind.i64.wrap ((i : Int) - 1) = ((i - 1 : Nat) : Int) := by
      rw [wrap_i64 (by omega)]
      omega
     try rw [bang hj] at hok
     repeat' (first
      | (refine And.intro ?_ ?_ <;> conv => whnf)
      | (refine XHeld.same rfl ?_; conv => whnf)
      | (refine XHeld.row rfl ?_; conv => whnf)
      | (refine XHeld.call rfl ?_; conv => whnf)
      | (refine XHeld.factCall rfl ?_; conv => whnf)
      | (refine XKeep.of ?_; conv => whnf)
      | (refine XSame.of ?_; conv => whnf)
      | (refine XDep.all _ _ _ _ ?_; conv => whnf)
      | (rw [hg]; conv => whnf)
      | (refine XRead.loadF tabOk rfl rfl (ad := ⟨br, 0, none⟩) (k := _) (L := lnkC ⟨pat, now, sent, first, h, l, wh, wait, co, ci⟩) (v := _) (Sees.row (by simp [Value.cells])) (fun _ => rfl) rfl ?_; conv => whnf)
      | (refine XCall.val hq1 (fun w hw => trivial) (fun v D hv => ?_); subst hv; conv => whnf)
      | (refine XRead.index tabOk (t := 83) rfl rfl rfl (by first | omega | (dsimp only; omega)) (by first | omega | (dsimp only; omega)) hh.nil fun ad2 had2 => ?_; conv => whnf)
      | (refine XRead.loadF tabOk (t := 3) rfl rfl (ad := ad2) (k := (i - 1) * 2) (L := l.flatMap fliC) (v := .int .i64 l[i - 1].due) (.fact fun w hw => had2 ▸ hw.1) (fun hs => by rw [hw1]; rfl) (fm_at (cf := fliC) (z := 2) (fun _ => rfl) hj (k := 0) (by decide)) ?_; conv => whnf)
      | (split <;> conv => whnf)
      | (refine XHeld.mk ?_ ?_; (focus (first | exact Ent.refl _ | exact Ent.left _ _ | exact Ent.of_le ⟨List.sublist_append_left _ _, fun w h => h⟩ | exact Ent.of_le ⟨List.Sublist.refl _, fun w h => h.1⟩)); conv => whnf))
     all_goals first
      | (refine ⟨_, Ent.refl _, ?_⟩; rw [allI_false hlt' (by rw [hok]; ((try subst heq1); (try subst heq2); (try subst heq3); simp only [cond_true, cond_false, iLt_eq, iLe_eq, iGt_eq, iGe_eq, iEq_eq, iNe_eq, decide_eq_true_eq, decide_eq_false_iff_not, beq_iff_eq, bne_iff_ne, ne_eq, beq_eq_false_iff_ne, bne_eq_false_iff_eq, Bool.not_eq_true, Bool.not_eq_false, Bool.and_true, Bool.true_and, Bool.and_false, Bool.false_and, Bool.or_true, Bool.or_false, Bool.true_or, Bool.false_or, Bool.not_eq_true', Bool.not_eq_false', Bool.not_true, Bool.not_false] at *; first | omega | (simp_all; done) | (simp_all; omega)))]; first | done | rfl)
      | (
       refine ⟨i + 1, ⟨⟨hlt', hnext (by rw [hok]; ((try subst heq1); (try subst heq2); (try subst heq3); simp only [cond_true, cond_false, iLt_eq, iLe_eq, iGt_eq, iGe_eq, iEq_eq, iNe_eq, decide_eq_true_eq, decide_eq_false_iff_not, beq_iff_eq, bne_iff_ne, ne_eq, beq_eq_false_iff_ne, bne_eq_false_iff_eq, Bool.not_eq_true, Bool.not_eq_false, Bool.and_true, Bool.true_and, Bool.and_false, Bool.false_and, Bool.or_true, Bool.or_false, Bool.true_or, Bool.false_or, Bool.not_eq_true', Bool.not_eq_false', Bool.not_true, Bool.not_false] at *; first | omega | (simp_all; done) | (simp_all; omega)))⟩, by dsimp only; omega⟩, ?_, ?_, Ent.refl _⟩; (conv => whnf); refine ⟨?_, rfl⟩; repeat (first | exact FLe.nil | refine FLe.any ?_ | refine FLe.cons ?_ | refine FLe.eq (by rw [wrap_i64 (by omega)]; rfl) ?_)
       (conv => whnf); exact trivial)
 · have hie : i = l.length := by
    simp only [iLt_eq, decide_eq_false_iff_not] at hlt
    omega
   subst hie
   conv => whnf
   repeat (first | (refine XSame.of ?_; conv => whnf) | (refine XDep.all _ _ _ _ ?_; conv => whnf))
   rw [allI_true hall, Bool.true_and]
   repeat' (first
    | (refine And.intro ?_ ?_ <;> conv => whnf)
    | (refine XHeld.same rfl ?_; conv => whnf)
    | (refine XHeld.row rfl ?_; conv => whnf)
    | (refine XHeld.call rfl ?_; conv => whnf)
    | (refine XHeld.factCall rfl ?_; conv => whnf)
    | (refine XKeep.of ?_; conv => whnf)
    | (refine XSame.of ?_; conv => whnf)
    | (refine XDep.all _ _ _ _ ?_; conv => whnf)
    | (refine XVal.of_read (XRead.loadF tabOk rfl rfl (ad := ⟨br, 0, none⟩) (k := _) (L := lnkC ⟨pat, now, sent, first, h, l, wh, wait, co, ci⟩) (v := _) (Sees.row (by simp [Value.cells])) (fun _ => rfl) rfl ?_); conv => whnf)
    | (refine XVal.of_read (XRead.loads tabOk rfl rfl (ad := ⟨br, 0, none⟩) (k := _) (L := lnkC ⟨pat, now, sent, first, h, l, wh, wait, co, ci⟩) (m := _) (Sees.row (by simp [Value.cells])) rfl rfl rfl ?_); conv => whnf)
    | (refine XCall.val hc (fun w hw => ⟨hw.2, trivial⟩) (fun v D hv => ?_); subst hv; conv => whnf)
    | (refine XCall.val h1 (fun w hw => trivial) (fun v D hv => ?_); subst hv; conv => whnf)
    | (refine XCall.val h2 (fun w hw => trivial) (fun v D hv => ?_); subst hv; conv => whnf)
    | (cases q4 <;> conv => whnf)
    | (cases q5 <;> conv => whnf)
    | (cases q6 <;> conv => whnf)
    | (split <;> conv => whnf)
    | (refine XHeld.mk ?_ ?_; (focus (first | exact Ent.refl _ | exact Ent.left _ _ | exact Ent.of_le ⟨List.sublist_append_left _ _, fun w h => h⟩ | exact Ent.of_le ⟨List.Sublist.refl _, fun w h => h.1⟩)); conv => whnf))
   all_goals exact ⟨_, Ent.refl _, rfl⟩

end Go.Proofs.YtakammghcodmgaaGreatDoor
namespace Go.Proofs.YtakammghcodmgaaGreatDoor
open Go Go.Sx
set_option maxRecDepth 100000
set_option maxHeartbeats 4000000
set_option linter.unusedVariables false
set_option linter.unusedSimpArgs false

structure Win where
 dev : Int
 tag : Int
 frame : Int
 w : Bool
 deriving Inhabited
def winC (x : Win) : List Value := [.int .i64 x.dev, .int .i64 x.tag, .int .i64 x.frame, .bool x.w]

end Go.Proofs.YtakammghcodmgaaGreatDoor
namespace Go.Proofs.YtakammghcodmgaaGreatDoor
open Go Go.Sx
set_option maxRecDepth 100000
set_option maxHeartbeats 4000000
set_option linter.unusedVariables false
set_option linter.unusedSimpArgs false

def quOk (l : List Int) (j : Nat) : Bool := decide (1 ≤ l[j]! ∧ l[j]! < 32) && !((l.take j).any fun y => l[j]! == y)

theorem schedValid_spec (l : List Int) (h : Hd) (hh : h.Ok l.length) (hl : l.length ≤ 140737488355328) :
 PureSpec Tryz.prog 93 [h.v l.length] (fun w => RowAt w h.a (l.map intV)) (fun v F => v = .bool (allI l.length (quOk l))) := by
 refine PureSpec.of_xc tabOk Tryz.func93 rfl (by decide) (n := Tryz.f93.ntmps - 1) rfl rfl fun w0 av => ?_
 conv => whnf
 repeat (first | (refine XSame.of ?_; conv => whnf) | (refine XDep.all _ _ _ _ ?_; conv => whnf))
 refine XStop.loop tabOk (ι := Nat) ([3, 4] ++ List.range' 7 20) (fun x => x ≤ l.length ∧ ∀ j, j < x → quOk l j = true)
  (fun x => [(7, .v (.int .i64 (x : Int)))]) (fun _ => []) (fun _ => ⟨fun w => RowAt w h.a (l.map intV), []⟩)
  (fun x => l.length - x) 0 ⟨Nat.zero_le _, fun j h => by omega⟩ ?_ rfl (Ent.refl _) fun i hi => ?_
 · conv => whnf
   repeat (first | exact FLe.nil | refine FLe.any ?_ | refine FLe.cons ?_)
 obtain ⟨hi, hall⟩ := hi
 conv => whnf
 repeat (first | (refine XSame.of ?_; conv => whnf) | (refine XDep.all _ _ _ _ ?_; conv => whnf))
 refine XIf.split (fun hlt => ?_) (fun hlt => ?_)
 · have hlt' : i < l.length := by
    simp only [iLt_eq, decide_eq_true_eq] at hlt
    omega
   have hok : quOk l i = (decide (1 ≤ l[i] ∧ l[i] < 32) && !((l.take i).any fun y => l[i] == y)) := by
    unfold quOk
    rw [bang hlt']
   have hnext : quOk l i = true → ∀ j, j < i + 1 → quOk l j = true := fun hs j hj => by
    rcases Nat.lt_or_eq_of_le (Nat.lt_succ_iff.1 hj) with h5 | h5
    · exact hall j h5
    · exact h5 ▸ hs
   have hq2 := hasQ_spec l[i] (l.take i) h (by rw [List.length_take, Nat.min_eq_left hi]; exact hh.less hi) (by rw [List.length_take]; omega)
   rw [List.length_take, Nat.min_eq_left hi] at hq2
   obtain ⟨q2, heq2⟩ : ∃ q, q = (l.take i).any fun y => l[i] == y := ⟨_, rfl⟩
   rw [← heq2] at hq2
   conv => whnf
   repeat (first | (refine XSame.of ?_; conv => whnf) | (refine XDep.all _ _ _ _ ?_; conv => whnf))
   refine XVal.of_read (XRead.index tabOk (t := 115) rfl rfl rfl (by omega) (by omega) hh.nil fun ad had => ?_)
   conv => whnf
   repeat (first | (refine XSame.of ?_; conv => whnf) | (refine XDep.all _ _ _ _ ?_; conv => whnf))
   refine XVal.of_read (XRead.loadF tabOk (t := 3) rfl rfl (ad := ad) (k := i) (L := l.map intV) (v := intV l[i]) (.fact fun w hw => had ▸ hw) (fun hs => by rw [Nat.mul_one]; rfl) (by rw [List.getElem?_map, List.getElem?_eq_getElem hlt']; rfl) ?_)
   conv => whnf
   repeat (first | (refine XSame.of ?_; conv => whnf) | (refine XDep.all _ _ _ _ ?_; conv => whnf))
   repeat' (first
    | (refine And.intro ?_ ?_ <;> conv => whnf)
    | (refine XHeld.same rfl ?_; conv => whnf)
    | (refine XHeld.row rfl ?_; conv => whnf)
    | (refine XHeld.call rfl ?_; conv => whnf)
    | (refine XHeld.factCall rfl ?_; conv => whnf)
    | (refine XKeep.of ?_; conv => whnf)
    | (refine XSame.of ?_; conv => whnf)
    | (refine XDep.all _ _ _ _ ?_; conv => whnf)
    | (refine XVal.of_read (XRead.subTo tabOk (t := 115) rfl rfl rfl i rfl (by have := hh.cap; omega) ?_); conv => whnf)
    | (refine XCall.val hq2 (fun w hw => by have h2 := RowAt.take hw i; rw [← List.map_take] at h2; exact h2) (fun v D hv => ?_); subst hv; conv => whnf)
    | (split <;> conv => whnf)
    | (refine XHeld.mk ?_ ?_; (focus (first | exact Ent.refl _ | exact Ent.left _ _ | exact Ent.of_le ⟨List.sublist_append_left _ _, fun w h => h⟩ | exact Ent.of_le ⟨List.Sublist.refl _, fun w h => h.1⟩)); conv => whnf))
   all_goals first
    | (refine ⟨_, Ent.refl _, ?_⟩; rw [allI_false hlt' (by rw [hok]; ((try subst heq1); (try subst heq2); (try subst heq3); simp only [cond_true, cond_false, iLt_eq, iLe_eq, iGt_eq, iGe_eq, iEq_eq, iNe_eq, decide_eq_true_eq, decide_eq_false_iff_not, beq_iff_eq, bne_iff_ne, ne_eq, beq_eq_false_iff_ne, bne_eq_false_iff_eq, Bool.not_eq_true, Bool.not_eq_false, Bool.and_true, Bool.true_and, Bool.and_false, Bool.false_and, Bool.or_true, Bool.or_false, Bool.true_or, Bool.false_or, Bool.not_eq_true', Bool.not_eq_false', Bool.not_true, Bool.not_false] at *; first | omega | (simp_all; done) | (simp_all; omega)))]; first | done | rfl)
    | (
     refine ⟨i + 1, ⟨⟨hlt', hnext (by rw [hok]; ((try subst heq1); (try subst heq2); (try subst heq3); simp only [cond_true, cond_false, iLt_eq, iLe_eq, iGt_eq, iGe_eq, iEq_eq, iNe_eq, decide_eq_true_eq, decide_eq_false_iff_not, beq_iff_eq, bne_iff_ne, ne_eq, beq_eq_false_iff_ne, bne_eq_false_iff_eq, Bool.not_eq_true, Bool.not_eq_false, Bool.and_true, Bool.true_and, Bool.and_false, Bool.false_and, Bool.or_true, Bool.or_false, Bool.true_or, Bool.false_or, Bool.not_eq_true', Bool.not_eq_false', Bool.not_true, Bool.not_false] at *; first | omega | (simp_all; done) | (simp_all; omega)))⟩, by dsimp only; omega⟩, ?_, ?_, Ent.refl _⟩; (conv => whnf); refine ⟨?_, rfl⟩; repeat (first | exact FLe.nil | refine FLe.any ?_ | refine FLe.cons ?_ | refine FLe.eq (by rw [wrap_i64 (by omega)]; rfl) ?_)
     (conv => whnf); exact trivial)
 · have hie : i = l.length := by
    simp only [iLt_eq, decide_eq_false_iff_not] at hlt
    omega
   subst hie
   conv => whnf
   repeat (first | (refine XSame.of ?_; conv => whnf) | (refine XDep.all _ _ _ _ ?_; conv => whnf))
   exact ⟨_, Ent.refl _, by rw [allI_true hall]⟩

end Go.Proofs.YtakammghcodmgaaGreatDoor
namespace Go.Proofs.YtakammghcodmgaaGreatDoor
open Go Go.Sx
set_option maxRecDepth 100000
set_option maxHeartbeats 4000000
set_option linter.unusedVariables false
set_option linter.unusedSimpArgs false

structure Lin where
 dev : Int
 tag : Int
 ans : Int
 data : Bs
instance : Inhabited Lin := ⟨⟨0, 0, 0, default⟩⟩
def linC (x : Lin) : List Value := [.int .i64 x.dev, .int .i64 x.tag, .int .i64 x.ans, bsV x.data]

theorem irqDev_spec (a : Int) : PureSpec Tryz.prog 195 [.int .i64 a] (fun _ => True) (fun v F => v = .bool (decide (1 ≤ a ∧ a ≤ 4))) := by
 refine PureSpec.of_xc tabOk Tryz.func195 rfl (by decide) (n := Tryz.f195.ntmps - 1) rfl rfl fun w0 av => ?_
 conv => whnf
 repeat (first | (refine XSame.of ?_; conv => whnf) | (refine XDep.all _ _ _ _ ?_; conv => whnf))
 exact ⟨_, Ent.refl _, by congr 1; rw [Bool.eq_iff_iff]; simp [iGe_eq, iLt_eq, iLe_eq, iGt_eq, iEq_eq, iNe_eq, and_assoc]; try omega⟩

def linP (x : Lin) : Bool := decide (1 ≤ x.dev ∧ x.dev ≤ 4) && decide (0 ≤ x.tag ∧ x.data.n ≤ 128)

theorem irqProper_spec (x : Lin) : PureSpec Tryz.prog 137 [.agg ⟨linC x⟩] (fun _ => True) (fun v F => v = .bool (linP x)) := by
 have h1 := irqDev_spec x.dev
 unfold linP
 generalize decide (1 ≤ x.dev ∧ x.dev ≤ 4) = q1 at *
 refine PureSpec.of_xc tabOk Tryz.func137 rfl (by decide) (n := Tryz.f137.ntmps - 1) rfl rfl fun w0 av => ?_
 conv => whnf
 repeat (first | (refine XSame.of ?_; conv => whnf) | (refine XDep.all _ _ _ _ ?_; conv => whnf))
 intro b1
 conv => whnf
 repeat (first | (refine XSame.of ?_; conv => whnf) | (refine XDep.all _ _ _ _ ?_; conv => whnf))
 repeat' (first
  | (refine And.intro ?_ ?_ <;> conv => whnf)
  | (refine XHeld.same rfl ?_; conv => whnf)
  | (refine XHeld.row rfl ?_; conv => whnf)
  | (refine XHeld.call rfl ?_; conv => whnf)
  | (refine XHeld.factCall rfl ?_; conv => whnf)
  | (refine XKeep.of ?_; conv => whnf)
  | (refine XSame.of ?_; conv => whnf)
  | (refine XDep.all _ _ _ _ ?_; conv => whnf)
  | (refine XCall.val h1 (fun w hw => trivial) (fun v D hv => ?_); subst hv; conv => whnf)
  | (cases q1 <;> conv => whnf)
  | (split <;> conv => whnf)
  | (refine XHeld.mk ?_ ?_; (focus (first | exact Ent.refl _ | exact Ent.left _ _ | exact Ent.of_le ⟨List.sublist_append_left _ _, fun w h => h⟩ | exact Ent.of_le ⟨List.Sublist.refl _, fun w h => h.1⟩)); conv => whnf))
 all_goals refine ⟨_, Ent.refl _, ?_⟩
 all_goals first | rfl | (congr 1; done) | (congr 1; rw [Bool.eq_iff_iff]; simp_all [iGe_eq, iLt_eq, iLe_eq, iGt_eq, iEq_eq, iNe_eq, and_assoc]; done) | (congr 1; rw [Bool.eq_iff_iff]; simp_all [iGe_eq, iLt_eq, iLe_eq, iGt_eq, iEq_eq, iNe_eq, and_assoc]; omega) | (congr 1; rw [Bool.eq_iff_iff]; (try cases q1) <;> (try cases q2) <;> (try cases q3) <;> (try simp_all [iGe_eq, iLt_eq, iLe_eq, iGt_eq, iEq_eq, iNe_eq, and_assoc]) <;> (try omega); done)

def linSame (x y : Lin) : Bool := iEq x.dev y.dev && iEq x.tag y.tag

theorem irqP1_spec (x y : Lin) (b : Nat) : PureSpec Tryz.prog 197 [.agg ⟨linC x⟩, .pointer (some ⟨b, 0, none⟩)] (fun w => RowAt w (some ⟨b, 0, none⟩) (linC y)) (fun v F => v = .bool (linSame x y)) := by
 unfold linSame
 refine PureSpec.of_xc tabOk Tryz.func197 rfl (by decide) (n := Tryz.f197.ntmps - 2) rfl rfl fun w0 av => ?_
 conv => whnf
 repeat (first | (refine XSame.of ?_; conv => whnf) | (refine XDep.all _ _ _ _ ?_; conv => whnf))
 intro b1
 conv => whnf
 repeat (first | (refine XSame.of ?_; conv => whnf) | (refine XDep.all _ _ _ _ ?_; conv => whnf))
 repeat' (first
  | (refine And.intro ?_ ?_ <;> conv => whnf)
  | (refine XHeld.same rfl ?_; conv => whnf)
  | (refine XHeld.row rfl ?_; conv => whnf)
  | (refine XHeld.call rfl ?_; conv => whnf)
  | (refine XHeld.factCall rfl ?_; conv => whnf)
  | (refine XKeep.of ?_; conv => whnf)
  | (refine XSame.of ?_; conv => whnf)
  | (refine XDep.all _ _ _ _ ?_; conv => whnf)
  | (refine XVal.of_read (XRead.loadF tabOk rfl rfl (ad := ⟨b, 0, none⟩) (k := _) (L := linC y) (v := _) (.fact fun w hw => hw) (fun _ => rfl) rfl ?_); conv => whnf)
  | (split <;> conv => whnf)
  | (refine XHeld.mk ?_ ?_; (focus (first | exact Ent.refl _ | exact Ent.left _ _ | exact Ent.of_le ⟨List.sublist_append_left _ _, fun w h => h⟩ | exact Ent.of_le ⟨List.Sublist.refl _, fun w h => h.1⟩)); conv => whnf))
 all_goals refine ⟨_, Ent.refl _, ?_⟩
 all_goals first | rfl | (congr 1; done) | (congr 1; rw [Bool.eq_iff_iff]; simp_all [iGe_eq, iLt_eq, iLe_eq, iGt_eq, iEq_eq, iNe_eq, and_assoc]; done) | (congr 1; rw [Bool.eq_iff_iff]; simp_all [iGe_eq, iLt_eq, iLe_eq, iGt_eq, iEq_eq, iNe_eq, and_assoc]; omega) | (congr 1; rw [Bool.eq_iff_iff]; (try cases q1) <;> (try cases q2) <;> (try cases q3) <;> (try simp_all [iGe_eq, iLt_eq, iLe_eq, iGt_eq, iEq_eq, iNe_eq, and_assoc]) <;> (try omega); done)

theorem lin_idx {α : Type} (cf : α → List Value) (hz : ∀ x, (cf x).length = 4) (f : FuncId) (Pre : World → Prop) (p : α → Bool) (u0 : Value) (l : List α) (h : Hd) (hh : h.Ok l.length) (hl : l.length ≤ 140737488355328) (hf : ∀ e ∈ l, PureSpec Tryz.prog f [.agg ⟨cf e⟩, u0] Pre (fun v F => v = .bool (p e))) :
 PureSpec Tryz.prog 141 [h.v l.length, .func (.func f) #[] #[u0]] (fun w => RowAt w h.a (l.flatMap cf) ∧ Pre w) (fun v F => v = .int .i64 (fint (l.findIdx? p))) := by
 refine PureSpec.of_xc tabOk Tryz.func141 rfl (by decide) (n := Tryz.f141.ntmps - 2) rfl rfl fun w0 av => ?_
 conv => whnf
 refine XStop.loop tabOk (ι := Nat) ([5] ++ List.range' 8 11) (fun x => x ≤ l.length ∧ ∀ j (hj : j < l.length), j < x → p l[j] = false)
  (fun x => [(8, .v (.int .i64 (x : Int)))]) (fun _ => []) (fun _ => ⟨fun w => RowAt w h.a (l.flatMap cf) ∧ Pre w, []⟩)
  (fun x => l.length - x) 0 ⟨Nat.zero_le _, fun j hj h => by omega⟩ ?_ rfl (Ent.refl _) fun i hi => ?_
 · conv => whnf
   repeat (first | exact FLe.nil | refine FLe.any ?_ | refine FLe.cons ?_)
 obtain ⟨hi, hall⟩ := hi
 conv => whnf
 refine XIf.split (fun hlt => ?_) (fun hlt => ?_)
 · have hlt' : i < l.length := by
    simp only [iLt_eq, decide_eq_true_eq] at hlt
    omega
   conv => whnf
   repeat (first | (refine XSame.of ?_; conv => whnf) | (refine XDep.all _ _ _ _ ?_; conv => whnf))
   refine XVal.of_read (XRead.index tabOk (t := 127) rfl rfl rfl (by omega) (by omega) hh.nil fun ad had => ?_)
   conv => whnf
   repeat (first | (refine XSame.of ?_; conv => whnf) | (refine XDep.all _ _ _ _ ?_; conv => whnf))
   refine XVal.of_read (XRead.loads tabOk (t := 148) rfl rfl (ad := ad) (k := i * 4) (L := l.flatMap cf) (m := cf l[i]) (.fact fun w hw => had ▸ hw.1) (by simp) (fm_get hz hlt') (hz _) ?_)
   conv => whnf
   repeat (first | (refine XSame.of ?_; conv => whnf) | (refine XDep.all _ _ _ _ ?_; conv => whnf))
   refine XCall.val (hf _ (List.getElem_mem hlt')) (fun w hw => hw.2) (fun v D hv => ?_)
   generalize hq : p l[i] = q at hv
   subst hv
   cases q
   · conv => whnf
     repeat (first | (refine XSame.of ?_; conv => whnf) | (refine XDep.all _ _ _ _ ?_; conv => whnf))
     refine ⟨i + 1, ⟨⟨hlt', fun j hj h => ?_⟩, by dsimp only; omega⟩, ?_, ?_, Ent.refl _⟩
     · rcases Nat.lt_or_eq_of_le (Nat.lt_succ_iff.1 h) with h5 | h5
       · exact hall j hj h5
       · subst h5
         exact hq
     · conv => whnf
       refine ⟨?_, rfl⟩
       repeat (first | exact FLe.nil | refine FLe.any ?_ | refine FLe.cons ?_ | refine FLe.eq (by rw [wrap_i64 (by omega)]; rfl) ?_)
     · conv => whnf
       exact trivial
   · conv => whnf
     repeat (first | (refine XSame.of ?_; conv => whnf) | (refine XDep.all _ _ _ _ ?_; conv => whnf))
     refine ⟨_, Ent.refl _, ?_⟩
     have : l.findIdx? p = some i := by
      rw [List.findIdx?_eq_some_iff_getElem]
      exact ⟨hlt', hq, fun j hj => by simpa using hall j (by omega) hj⟩
     rw [this]
     rfl
 · have hie : i = l.length := by
    simp only [iLt_eq, decide_eq_false_iff_not] at hlt
    omega
   subst hie
   conv => whnf
   repeat (first | (refine XSame.of ?_; conv => whnf) | (refine XDep.all _ _ _ _ ?_; conv => whnf))
   refine ⟨_, Ent.refl _, ?_⟩
   have : l.findIdx? p = none := by
    rw [List.findIdx?_eq_none_iff]
    intro x hx
    obtain ⟨j, hj, rfl⟩ := List.getElem_of_mem hx
    simpa using hall j hj hj
   rw [this]
   rfl

theorem lin_has {α : Type} (cf : α → List Value) (hz : ∀ x, (cf x).length = 4) (f : FuncId) (Pre : World → Prop) (p : α → Bool) (u0 : Value) (l : List α) (h : Hd) (hh : h.Ok l.length) (hl : l.length ≤ 140737488355328) (hf : ∀ e ∈ l, PureSpec Tryz.prog f [.agg ⟨cf e⟩, u0] Pre (fun v F => v = .bool (p e))) :
 PureSpec Tryz.prog 196 [h.v l.length, .func (.func f) #[] #[u0]] (fun w => RowAt w h.a (l.flatMap cf) ∧ Pre w) (fun v F => v = .bool (l.any p)) := by
 have hi := lin_idx cf hz f Pre p u0 l h hh hl hf
 have hv := fint_any l p
 generalize fint (l.findIdx? p) = j at *
 refine PureSpec.of_xc tabOk Tryz.func196 rfl (by decide) (n := Tryz.f196.ntmps - 2) rfl rfl fun w0 av => ?_
 conv => whnf
 repeat (first | (refine XSame.of ?_; conv => whnf) | (refine XDep.all _ _ _ _ ?_; conv => whnf))
 refine XCall.val hi (fun w hw => hw) (fun v D hv => ?_)
 subst hv
 conv => whnf
 repeat (first | (refine XSame.of ?_; conv => whnf) | (refine XDep.all _ _ _ _ ?_; conv => whnf))
 exact ⟨_, Ent.refl _, by rw [← hv, iGe_eq]⟩

theorem irqPending_spec (l : List Lin) (h : Hd) (hh : h.Ok l.length) (hl : l.length ≤ 140737488355328) (x : Lin) :
 PureSpec Tryz.prog 138 [h.v l.length, .agg ⟨linC x⟩] (fun w => RowAt w h.a (l.flatMap linC)) (fun v F => v = .bool (l.any fun y => linSame y x)) := by
 have hg := fun (b : Nat) => lin_has linC (fun _ => rfl) 197 (fun w => RowAt w (some ⟨b, 0, none⟩) (linC x)) (fun y => linSame y x) (.pointer (some ⟨b, 0, none⟩)) l h hh hl (fun e _ => irqP1_spec e x b)
 generalize (l.any fun y => linSame y x) = q1 at *
 refine PureSpec.of_xc tabOk Tryz.func138 rfl (by decide) (n := Tryz.f138.ntmps - 2) rfl rfl fun w0 av => ?_
 conv => whnf
 repeat (first | (refine XSame.of ?_; conv => whnf) | (refine XDep.all _ _ _ _ ?_; conv => whnf))
 intro b1
 conv => whnf
 repeat (first | (refine XSame.of ?_; conv => whnf) | (refine XDep.all _ _ _ _ ?_; conv => whnf))
 refine XCall.look (hg b1) ((Loc.row _ _).and (Loc.row _ _)) (fun w hst => ⟨hst.now, Sees.box 0 rfl (by simp) rfl w hst⟩) ?_
 conv => whnf
 repeat (first | (refine XSame.of ?_; conv => whnf) | (refine XDep.all _ _ _ _ ?_; conv => whnf))
 exact ⟨_, Ent.refl _, rfl⟩

def linOk (l : List Lin) (j : Nat) : Bool := linP l[j]! && !((l.take j).any fun y => linSame y l[j]!)

theorem irqValid_spec (m0 m1 m2 m3 m4 : Bool) (l : List Lin) (h : Hd) (hh : h.Ok l.length) (hl : l.length ≤ 140737488355328) :
 PureSpec Tryz.prog 136 [.agg ⟨[.bool m0, .bool m1, .bool m2, .bool m3, .bool m4, h.v l.length]⟩] (fun w => RowAt w h.a (l.flatMap linC)) (fun v F => v = .bool (allI l.length (linOk l) && (decide (l.length ≤ 32) && !m0))) := by
 refine PureSpec.of_xc tabOk Tryz.func136 rfl (by decide) (n := Tryz.f136.ntmps - 1) rfl rfl fun w0 av => ?_
 conv => whnf
 repeat (first | (refine XSame.of ?_; conv => whnf) | (refine XDep.all _ _ _ _ ?_; conv => whnf))
 intro b0_0
 conv => whnf
 repeat (first | (refine XSame.of ?_; conv => whnf) | (refine XDep.all _ _ _ _ ?_; conv => whnf))
 refine XStop.loop tabOk (ι := Nat) ([3, 4] ++ List.range' 8 17) (fun x => x ≤ l.length ∧ ∀ j, j < x → linOk l j = true)
  (fun x => [(8, .v (.int .i64 (x : Int)))]) (fun _ => [[.bool m0, .bool m1, .bool m2, .bool m3, .bool m4, h.v l.length]]) (fun _ => ⟨fun w => RowAt w h.a (l.flatMap linC), []⟩)
  (fun x => l.length - x) 0 ⟨Nat.zero_le _, fun j h => by omega⟩ ?_ rfl (Ent.of_le ⟨by simp [Value.cells], fun w hw => hw⟩) fun i hi => ?_
 · conv => whnf
   repeat (first | exact FLe.nil | refine FLe.any ?_ | refine FLe.cons ?_)
 obtain ⟨hi, hall⟩ := hi
 conv => whnf
 repeat (first | (refine XSame.of ?_; conv => whnf) | (refine XDep.all _ _ _ _ ?_; conv => whnf))
 refine XIf.split (fun hlt => ?_) (fun hlt => ?_)
 · have hlt' : i < l.length := by
    simp only [iLt_eq, decide_eq_true_eq] at hlt
    omega
   have hok : linOk l i = (linP l[i] && !((l.take i).any fun y => linSame y l[i])) := by
    unfold linOk
    rw [bang hlt']
   have hnext : linOk l i = true → ∀ j, j < i + 1 → linOk l j = true := fun hs j hj => by
    rcases Nat.lt_or_eq_of_le (Nat.lt_succ_iff.1 hj) with h5 | h5
    · exact hall j h5
    · exact h5 ▸ hs
   have hq1 := irqProper_spec l[i]
   obtain ⟨q1, heq1⟩ : ∃ q, q = linP l[i] := ⟨_, rfl⟩
   rw [← heq1] at hq1
   have hq2 := irqPending_spec (l.take i) h (by rw [List.length_take, Nat.min_eq_left hi]; exact hh.less hi) (by rw [List.length_take]; omega) l[i]
   obtain ⟨q2, heq2⟩ : ∃ q, q = ((l.take i).any fun y => linSame y l[i]) := ⟨_, rfl⟩
   rw [← heq2] at hq2
   conv => whnf
   repeat (first | (refine XSame.of ?_; conv => whnf) | (refine XDep.all _ _ _ _ ?_; conv => whnf))
   refine XVal.of_read (XRead.index tabOk (t := 127) rfl rfl rfl (by first | omega | (dsimp only; omega)) (by first | omega | (dsimp only; omega)) hh.nil fun ad had => ?_)
   conv => whnf
   repeat (first | (refine XSame.of ?_; conv => whnf) | (refine XDep.all _ _ _ _ ?_; conv => whnf))
   refine XVal.of_read (XRead.loads tabOk (t := 148) rfl rfl (ad := ad) (k := i * 4) (L := l.flatMap linC) (m := linC l[i]) (.fact fun w hw => had ▸ hw) (by simp) (fm_get (cf := linC) (z := 4) (fun _ => rfl) hlt') rfl ?_)
   conv => whnf
   repeat (first | (refine XSame.of ?_; conv => whnf) | (refine XDep.all _ _ _ _ ?_; conv => whnf))
   intro b1
   conv => whnf
   repeat (first | (refine XSame.of ?_; conv => whnf) | (refine XDep.all _ _ _ _ ?_; conv => whnf))
   refine XStop.draw tabOk mixed rfl rfl ?_
   conv => whnf
   rcases Nat.eq_zero_or_pos i with h0 | h0
   · have hg : iGt (i : Int) 0 = false := by simp [iGt_eq]; omega
     repeat' (first
      | (refine And.intro ?_ ?_ <;> conv => whnf)
      | (refine XHeld.same rfl ?_; conv => whnf)
      | (refine XHeld.row rfl ?_; conv => whnf)
      | (refine XHeld.call rfl ?_; conv => whnf)
      | (refine XHeld.factCall rfl ?_; conv => whnf)
      | (refine XKeep.of ?_; conv => whnf)
      | (refine XSame.of ?_; conv => whnf)
      | (refine XDep.all _ _ _ _ ?_; conv => whnf)
      | (rw [hg]; conv => whnf)
      | (refine XCall.val hq1 (fun w hw => trivial) (fun v D hv => ?_); subst hv; conv => whnf)
      | (refine XRead.subTo tabOk (t := 127) rfl rfl rfl i rfl (by have := hh.cap; omega) ?_; conv => whnf)
      | (refine XCall.val (by have := hq2; rw [List.length_take, Nat.min_eq_left hi] at this; exact this) (fun w hw => by have h2 := RowAt.take hw (i * 4); rw [fm_take (cf := linC) (z := 4) (fun _ => rfl)] at h2; exact h2) (fun v D hv => ?_); subst hv; conv => whnf)
      | (split <;> conv => whnf)
      | (refine XHeld.mk ?_ ?_; (focus (first | exact Ent.refl _ | exact Ent.left _ _ | exact Ent.of_le ⟨List.sublist_append_left _ _, fun w h => h⟩ | exact Ent.of_le ⟨List.Sublist.refl _, fun w h => h.1⟩)); conv => whnf))
     all_goals first
      | (refine ⟨_, Ent.refl _, ?_⟩; rw [allI_false hlt' (by rw [hok]; ((try subst heq1); (try subst heq2); (try subst heq3); simp only [cond_true, cond_false, iLt_eq, iLe_eq, iGt_eq, iGe_eq, iEq_eq, iNe_eq, decide_eq_true_eq, decide_eq_false_iff_not, beq_iff_eq, bne_iff_ne, ne_eq, beq_eq_false_iff_ne, bne_eq_false_iff_eq, Bool.not_eq_true, Bool.not_eq_false, Bool.and_true, Bool.true_and, Bool.and_false, Bool.false_and, Bool.or_true, Bool.or_false, Bool.true_or, Bool.false_or, Bool.not_eq_true', Bool.not_eq_false', Bool.not_true, Bool.not_false] at *; first | omega | (simp_all; done) | (simp_all; omega)))]; first | done | rfl)
      | (
       refine ⟨i + 1, ⟨⟨hlt', hnext (by rw [hok]; ((try subst heq1); (try subst heq2); (try subst heq3); simp only [cond_true, cond_false, iLt_eq, iLe_eq, iGt_eq, iGe_eq, iEq_eq, iNe_eq, decide_eq_true_eq, decide_eq_false_iff_not, beq_iff_eq, bne_iff_ne, ne_eq, beq_eq_false_iff_ne, bne_eq_false_iff_eq, Bool.not_eq_true, Bool.not_eq_false, Bool.and_true, Bool.true_and, Bool.and_false, Bool.false_and, Bool.or_true, Bool.or_false, Bool.true_or, Bool.false_or, Bool.not_eq_true', Bool.not_eq_false', Bool.not_true, Bool.not_false] at *; first | omega | (simp_all; done) | (simp_all; omega)))⟩, by dsimp only; omega⟩, ?_, ?_, Ent.refl _⟩; (conv => whnf); refine ⟨?_, rfl⟩; repeat (first | exact FLe.nil | refine FLe.any ?_ | refine FLe.cons ?_ | refine FLe.eq (by rw [wrap_i64 (by omega)]; rfl) ?_)
       (conv => whnf); exact ⟨⟨rfl, rfl⟩, trivial⟩)
   · have hg : iGt (i : Int) 0 = true := by simp [iGt_eq]; omega
     have hj : i - 1 < l.length := by omega
     have hw1 : IntKind.i64.wrap ((i : Int) - 1) = ((i - 1 : Nat) : Int) := by
      rw [wrap_i64 (by omega)]
      omega
     try rw [bang hj] at hok
     repeat' (first
      | (refine And.intro ?_ ?_ <;> conv => whnf)
      | (refine XHeld.same rfl ?_; conv => whnf)
      | (refine XHeld.row rfl ?_; conv => whnf)
      | (refine XHeld.call rfl ?_; conv => whnf)
      | (refine XHeld.factCall rfl ?_; conv => whnf)
      | (refine XKeep.of ?_; conv => whnf)
      | (refine XSame.of ?_; conv => whnf)
      | (refine XDep.all _ _ _ _ ?_; conv => whnf)
      | (rw [hg]; conv => whnf)
      | (refine XCall.val hq1 (fun w hw => trivial) (fun v D hv => ?_); subst hv; conv => whnf)
      | (refine XRead.subTo tabOk (t := 127) rfl rfl rfl i rfl (by have := hh.cap; omega) ?_; conv => whnf)
      | (refine XCall.val (by have := hq2; rw [List.length_take, Nat.min_eq_left hi] at this; exact this) (fun w hw => by have h2 := RowAt.take hw (i * 4); rw [fm_take (cf := linC) (z := 4) (fun _ => rfl)] at h2; exact h2) (fun v D hv => ?_); subst hv; conv => whnf)
      | (refine XRead.index tabOk (t := 127) rfl rfl rfl (by first | omega | (dsimp only; omega)) (by first | omega | (dsimp only; omega)) hh.nil fun ad2 had2 => ?_; conv => whnf)
      | (split <;> conv => whnf)
      | (refine XHeld.mk ?_ ?_; (focus (first | exact Ent.refl _ | exact Ent.left _ _ | exact Ent.of_le ⟨List.sublist_append_left _ _, fun w h => h⟩ | exact Ent.of_le ⟨List.Sublist.refl _, fun w h => h.1⟩)); conv => whnf))
     all_goals first
      | (refine ⟨_, Ent.refl _, ?_⟩; rw [allI_false hlt' (by rw [hok]; ((try subst heq1); (try subst heq2); (try subst heq3); simp only [cond_true, cond_false, iLt_eq, iLe_eq, iGt_eq, iGe_eq, iEq_eq, iNe_eq, decide_eq_true_eq, decide_eq_false_iff_not, beq_iff_eq, bne_iff_ne, ne_eq, beq_eq_false_iff_ne, bne_eq_false_iff_eq, Bool.not_eq_true, Bool.not_eq_false, Bool.and_true, Bool.true_and, Bool.and_false, Bool.false_and, Bool.or_true, Bool.or_false, Bool.true_or, Bool.false_or, Bool.not_eq_true', Bool.not_eq_false', Bool.not_true, Bool.not_false] at *; first | omega | (simp_all; done) | (simp_all; omega)))]; first | done | rfl)
      | (
       refine ⟨i + 1, ⟨⟨hlt', hnext (by rw [hok]; ((try subst heq1); (try subst heq2); (try subst heq3); simp only [cond_true, cond_false, iLt_eq, iLe_eq, iGt_eq, iGe_eq, iEq_eq, iNe_eq, decide_eq_true_eq, decide_eq_false_iff_not, beq_iff_eq, bne_iff_ne, ne_eq, beq_eq_false_iff_ne, bne_eq_false_iff_eq, Bool.not_eq_true, Bool.not_eq_false, Bool.and_true, Bool.true_and, Bool.and_false, Bool.false_and, Bool.or_true, Bool.or_false, Bool.true_or, Bool.false_or, Bool.not_eq_true', Bool.not_eq_false', Bool.not_true, Bool.not_false] at *; first | omega | (simp_all; done) | (simp_all; omega)))⟩, by dsimp only; omega⟩, ?_, ?_, Ent.refl _⟩; (conv => whnf); refine ⟨?_, rfl⟩; repeat (first | exact FLe.nil | refine FLe.any ?_ | refine FLe.cons ?_ | refine FLe.eq (by rw [wrap_i64 (by omega)]; rfl) ?_)
       (conv => whnf); exact ⟨⟨rfl, rfl⟩, trivial⟩)
 · have hie : i = l.length := by
    simp only [iLt_eq, decide_eq_false_iff_not] at hlt
    omega
   subst hie
   conv => whnf
   repeat (first | (refine XSame.of ?_; conv => whnf) | (refine XDep.all _ _ _ _ ?_; conv => whnf))
   rw [allI_true hall, Bool.true_and]
   repeat' (first
    | (refine And.intro ?_ ?_ <;> conv => whnf)
    | (refine XHeld.same rfl ?_; conv => whnf)
    | (refine XHeld.row rfl ?_; conv => whnf)
    | (refine XHeld.call rfl ?_; conv => whnf)
    | (refine XHeld.factCall rfl ?_; conv => whnf)
    | (refine XKeep.of ?_; conv => whnf)
    | (refine XSame.of ?_; conv => whnf)
    | (refine XDep.all _ _ _ _ ?_; conv => whnf)
    | (cases m0 <;> conv => whnf)
    | (split <;> conv => whnf)
    | (refine XHeld.mk ?_ ?_; (focus (first | exact Ent.refl _ | exact Ent.left _ _ | exact Ent.of_le ⟨List.sublist_append_left _ _, fun w h => h⟩ | exact Ent.of_le ⟨List.Sublist.refl _, fun w h => h.1⟩)); conv => whnf))
   all_goals refine ⟨_, Ent.refl _, ?_⟩
   all_goals first | rfl | (congr 1; done) | (congr 1; rw [Bool.eq_iff_iff]; simp_all [iGe_eq, iLt_eq, iLe_eq, iGt_eq, iEq_eq, iNe_eq, and_assoc]; done) | (congr 1; rw [Bool.eq_iff_iff]; simp_all [iGe_eq, iLt_eq, iLe_eq, iGt_eq, iEq_eq, iNe_eq, and_assoc]; omega) | (congr 1; rw [Bool.eq_iff_iff]; (try cases q1) <;> (try cases q2) <;> (try cases q3) <;> (try simp_all [iGe_eq, iLt_eq, iLe_eq, iGt_eq, iEq_eq, iNe_eq, and_assoc]) <;> (try omega); done)

end Go.Proofs.YtakammghcodmgaaGreatDoor
