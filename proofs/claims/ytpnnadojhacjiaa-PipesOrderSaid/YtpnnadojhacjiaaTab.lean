/- The table of the types, and that it is the program's. -/
import Derived.Test.YtpnnadojhacjiaaSxK
import Derived.Test.YtpnnadojhacjiaaProg
import Derived.KernelRfl
namespace Go.Proofs.Ytpnnadojhacjiaa
open Go Go.Sx

def tab : Tab :=
  [(2, ⟨.int .i64, 1, [.int .i64 0], [], 8⟩),
   (3, ⟨.int .i64, 1, [.int .i64 0], [], 8⟩),
   (4, ⟨.bool, 1, [.bool false], [], 1⟩),
   (5, ⟨.int .u8, 1, [.int .u8 0], [], 1⟩),
   (9, ⟨.str, 1, [.string ⟨#[]⟩], [], 16⟩),
   (12, ⟨.int .u64, 1, [.int .u64 0], [], 8⟩),
   (13, ⟨.struct, 2, [.string ⟨#[]⟩, .int .u64 0], [(0, 1, false), (1, 1, false)], 24⟩),
   (21, ⟨.int .i32, 1, [.int .i32 0], [], 4⟩),
   (22, ⟨.slice 39, 1, [.slice none 0 0], [], 24⟩),
   (25, ⟨.slice 5, 1, [.slice none 0 0], [], 24⟩),
   (26, ⟨.slice 51, 1, [.slice none 0 0], [], 24⟩),
   (27, ⟨.struct, 4, [.slice none 0 0, .int .i64 0, .int .i64 0, .slice none 0 0], [(0, 1, false), (1, 1, false), (2, 1, false), (3, 1, false)], 64⟩),
   (28, ⟨.struct, 4, [.slice none 0 0, .int .i64 0, .int .i64 0, .slice none 0 0], [(0, 1, false), (1, 1, false), (2, 1, false), (3, 1, false)], 64⟩),
   (29, ⟨.slice 37, 1, [.slice none 0 0], [], 24⟩),
   (30, ⟨.struct, 4, [.slice none 0 0, .int .i64 0, .int .i64 0, .slice none 0 0], [(0, 1, false), (1, 1, false), (2, 1, false), (3, 1, false)], 64⟩),
   (31, ⟨.struct, 4, [.slice none 0 0, .int .i64 0, .int .i64 0, .slice none 0 0], [(0, 1, false), (1, 1, false), (2, 1, false), (3, 1, false)], 64⟩),
   (32, ⟨.slice 49, 1, [.slice none 0 0], [], 24⟩),
   (33, ⟨.int .i64, 1, [.int .i64 0], [], 8⟩),
   (36, ⟨.struct, 4, [.int .i64 0, .bool false, .int .i64 0, .slice none 0 0], [(0, 1, false), (1, 1, false), (2, 1, false), (3, 1, false)], 48⟩),
   (37, ⟨.struct, 4, [.int .i64 0, .bool false, .int .i64 0, .slice none 0 0], [(0, 1, false), (1, 1, false), (2, 1, false), (3, 1, false)], 48⟩),
   (38, ⟨.struct, 5, [.int .i64 0, .int .i64 0, .bool false, .int .i64 0, .slice none 0 0], [(0, 1, false), (1, 4, true)], 56⟩),
   (39, ⟨.struct, 5, [.int .i64 0, .int .i64 0, .bool false, .int .i64 0, .slice none 0 0], [(0, 1, false), (1, 4, true)], 56⟩),
   (40, ⟨.slice 68, 1, [.slice none 0 0], [], 24⟩),
   (48, ⟨.struct, 3, [.int .i64 0, .int .i64 0, .slice none 0 0], [(0, 1, false), (1, 1, false), (2, 1, false)], 40⟩),
   (49, ⟨.struct, 3, [.int .i64 0, .int .i64 0, .slice none 0 0], [(0, 1, false), (1, 1, false), (2, 1, false)], 40⟩),
   (51, ⟨.struct, 4, [.int .i64 0, .bool false, .int .i64 0, .slice none 0 0], [(0, 1, false), (1, 1, false), (2, 1, false), (3, 1, false)], 48⟩),
   (55, ⟨.slice 3, 1, [.slice none 0 0], [], 24⟩),
   (56, ⟨.arr 2 55, 2, [.slice none 0 0, .slice none 0 0], [], 48⟩),
   (68, ⟨.struct, 3, [.int .i64 0, .int .i64 0, .slice none 0 0], [(0, 1, false), (1, 1, false), (2, 1, false)], 40⟩),
   (76, ⟨.ptr 3, 1, [.pointer none], [], 8⟩),
   (78, ⟨.map 3 4, 1, [.map none], [], 8⟩),
   (87, ⟨.ptr 89, 1, [.pointer none], [], 8⟩),
   (88, ⟨.struct, 5, [.slice none 0 0, .int .i64 0, .int .i64 0, .slice none 0 0, .slice none 0 0], [(0, 4, true), (4, 1, false)], 88⟩),
   (89, ⟨.struct, 5, [.slice none 0 0, .int .i64 0, .int .i64 0, .slice none 0 0, .slice none 0 0], [(0, 4, true), (4, 1, false)], 88⟩),
   (104, ⟨.int .u32, 1, [.int .u32 0], [], 4⟩),
   (108, ⟨.ptr 5, 1, [.pointer none], [], 8⟩)]

theorem tabOk : TabOk Try.prog tab := tabOk_of (by kernel_rfl)

end Go.Proofs.Ytpnnadojhacjiaa
