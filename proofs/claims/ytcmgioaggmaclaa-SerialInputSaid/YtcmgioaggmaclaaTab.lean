/- The table of the types, and that it is the program's. -/
import Derived.Test.YtcmgioaggmaclaaSxK
import Derived.Test.YtcmgioaggmaclaaProg
import Derived.KernelRfl
namespace Go.Proofs.Ytcmgioaggmaclaa
open Go Go.Sx

def tab : Tab :=
  [(2, ⟨.int .i64, 1, [.int .i64 0], [], 8⟩),
   (3, ⟨.int .i64, 1, [.int .i64 0], [], 8⟩),
   (4, ⟨.bool, 1, [.bool false], [], 1⟩),
   (5, ⟨.int .u8, 1, [.int .u8 0], [], 1⟩),
   (9, ⟨.str, 1, [.string ⟨#[]⟩], [], 16⟩),
   (12, ⟨.int .u64, 1, [.int .u64 0], [], 8⟩),
   (13, ⟨.struct, 2, [.string ⟨#[]⟩, .int .u64 0], [(0, 1, false), (1, 1, false)], 24⟩),
   (21, ⟨.int .i32, 1, [.int .i32 0], [], 4⟩),
   (22, ⟨.slice 5, 1, [.slice none 0 0], [], 24⟩),
   (23, ⟨.struct, 4, [.int .i64 0, .int .i64 0, .int .i64 0, .slice none 0 0], [(0, 1, false), (1, 1, false), (2, 1, false), (3, 1, false)], 48⟩),
   (24, ⟨.struct, 4, [.int .i64 0, .int .i64 0, .int .i64 0, .slice none 0 0], [(0, 1, false), (1, 1, false), (2, 1, false), (3, 1, false)], 48⟩),
   (25, ⟨.struct, 3, [.int .i64 0, .int .i64 0, .slice none 0 0], [(0, 1, false), (1, 1, false), (2, 1, false)], 40⟩),
   (26, ⟨.struct, 3, [.int .i64 0, .int .i64 0, .slice none 0 0], [(0, 1, false), (1, 1, false), (2, 1, false)], 40⟩),
   (27, ⟨.struct, 9, [.bool false, .int .i64 0, .int .i64 0, .int .i64 0, .slice none 0 0, .int .i64 0, .int .i64 0, .int .i64 0, .slice none 0 0], [(0, 1, false), (1, 4, true), (5, 1, false), (6, 3, true)], 104⟩),
   (28, ⟨.struct, 9, [.bool false, .int .i64 0, .int .i64 0, .int .i64 0, .slice none 0 0, .int .i64 0, .int .i64 0, .int .i64 0, .slice none 0 0], [(0, 1, false), (1, 4, true), (5, 1, false), (6, 3, true)], 104⟩),
   (29, ⟨.struct, 23, [.slice none 0 0, .int .i64 0, .int .i64 0, .slice none 0 0, .slice none 0 0, .bool false, .int .i64 0, .int .i64 0, .int .i64 0, .slice none 0 0, .int .i64 0, .int .i64 0, .int .i64 0, .slice none 0 0, .bool false, .int .i64 0, .int .i64 0, .int .i64 0, .slice none 0 0, .int .i64 0, .int .i64 0, .int .i64 0, .slice none 0 0], [(0, 1, false), (1, 1, false), (2, 1, false), (3, 1, false), (4, 1, false), (5, 9, true), (14, 9, true)], 296⟩),
   (30, ⟨.struct, 23, [.slice none 0 0, .int .i64 0, .int .i64 0, .slice none 0 0, .slice none 0 0, .bool false, .int .i64 0, .int .i64 0, .int .i64 0, .slice none 0 0, .int .i64 0, .int .i64 0, .int .i64 0, .slice none 0 0, .bool false, .int .i64 0, .int .i64 0, .int .i64 0, .slice none 0 0, .int .i64 0, .int .i64 0, .int .i64 0, .slice none 0 0], [(0, 1, false), (1, 1, false), (2, 1, false), (3, 1, false), (4, 1, false), (5, 9, true), (14, 9, true)], 296⟩),
   (33, ⟨.struct, 4, [.int .i64 0, .int .i64 0, .int .i64 0, .slice none 0 0], [(0, 1, false), (1, 1, false), (2, 1, false), (3, 1, false)], 48⟩),
   (34, ⟨.struct, 3, [.int .i64 0, .int .i64 0, .slice none 0 0], [(0, 1, false), (1, 1, false), (2, 1, false)], 40⟩),
   (35, ⟨.struct, 8, [.bool false, .int .i64 0, .int .i64 0, .int .i64 0, .slice none 0 0, .int .i64 0, .int .i64 0, .slice none 0 0], [(0, 1, false), (1, 4, true), (5, 3, true)], 96⟩),
   (36, ⟨.struct, 8, [.bool false, .int .i64 0, .int .i64 0, .int .i64 0, .slice none 0 0, .int .i64 0, .int .i64 0, .slice none 0 0], [(0, 1, false), (1, 4, true), (5, 3, true)], 96⟩),
   (37, ⟨.struct, 21, [.slice none 0 0, .int .i64 0, .int .i64 0, .slice none 0 0, .slice none 0 0, .bool false, .int .i64 0, .int .i64 0, .int .i64 0, .slice none 0 0, .int .i64 0, .int .i64 0, .slice none 0 0, .bool false, .int .i64 0, .int .i64 0, .int .i64 0, .slice none 0 0, .int .i64 0, .int .i64 0, .slice none 0 0], [(0, 1, false), (1, 1, false), (2, 1, false), (3, 1, false), (4, 1, false), (5, 8, true), (13, 8, true)], 280⟩),
   (38, ⟨.struct, 21, [.slice none 0 0, .int .i64 0, .int .i64 0, .slice none 0 0, .slice none 0 0, .bool false, .int .i64 0, .int .i64 0, .int .i64 0, .slice none 0 0, .int .i64 0, .int .i64 0, .slice none 0 0, .bool false, .int .i64 0, .int .i64 0, .int .i64 0, .slice none 0 0, .int .i64 0, .int .i64 0, .slice none 0 0], [(0, 1, false), (1, 1, false), (2, 1, false), (3, 1, false), (4, 1, false), (5, 8, true), (13, 8, true)], 280⟩),
   (39, ⟨.int .i64, 1, [.int .i64 0], [], 8⟩),
   (44, ⟨.slice 34, 1, [.slice none 0 0], [], 24⟩),
   (48, ⟨.slice 26, 1, [.slice none 0 0], [], 24⟩),
   (63, ⟨.int .u16, 1, [.int .u16 0], [], 2⟩),
   (89, ⟨.ptr 36, 1, [.pointer none], [], 8⟩),
   (96, ⟨.ptr 38, 1, [.pointer none], [], 8⟩),
   (108, ⟨.int .u32, 1, [.int .u32 0], [], 4⟩),
   (112, ⟨.ptr 5, 1, [.pointer none], [], 8⟩)]

theorem tabOk : TabOk Try.prog tab := tabOk_of (by kernel_rfl)

end Go.Proofs.Ytcmgioaggmaclaa
