/- The compiled functions are the program's. -/
import Derived.Test.YtbfpgfopppfhoaaGreatDoorYtA
import Derived.Test.YtbfpgfopppfhoaaGreatDoorMyD
import Derived.Test.YtbfpgfopppfhoaaGreatDoorProg
import Derived.KernelRfl
namespace Go.Ye.Tb
open Go Go.Ye
set_option linter.unusedVariables false
set_option maxRecDepth 100000

def pu : List Nat := [91, 121]

noncomputable def isFun (g : FuncId) (S : List Nat) : Option Fun := ((Go.Proofs.Tryz.prog.funcs[g]?).bind fun fn => (compF Go.Proofs.Tryz.prog pu S fn).map denF)

theorem t12 : isFun 12 [2, 0, 3, 5, 7, 9, 1, 4, 6] = some F12 := by kernel_rfl
theorem t39 : isFun 39 [5, 4, 21, 1, 0, 35, 6, 33, 34, 36, 37, 2] = some F39 := by kernel_rfl
theorem t80 : isFun 80 [0, 3, 9, 2] = some F80 := by kernel_rfl
theorem t119 : isFun 119 [8, 1, 7, 31, 9, 25, 10, 15, 0, 52, 6, 2] = some F119 := by kernel_rfl
theorem t150 : isFun 150 [6, 5, 10, 0, 4, 1] = some F150 := by kernel_rfl
theorem t151 : isFun 151 [0, 2] = some F151 := by kernel_rfl
theorem t171 : isFun 171 [5, 1, 0, 9, 4] = some F171 := by kernel_rfl
theorem t182 : isFun 182 [5, 4, 1, 0] = some F182 := by kernel_rfl
theorem t172 : isFun 172 [0, 4, 3, 6, 2] = some F172 := by kernel_rfl
theorem t81 : isFun 81 [1, 4, 0] = some F81 := by kernel_rfl
theorem t82 : isFun 82 [2, 0] = some F82 := by kernel_rfl
theorem t83 : isFun 83 [1, 0, 7, 16, 2, 6] = some F83 := by kernel_rfl
theorem t120 : isFun 120 [1, 7, 22, 11, 23, 12, 13, 14, 15, 16, 17, 18, 19, 20, 21, 31, 25, 26, 27, 28, 29, 30, 34, 32, 33, 36, 35, 37, 6, 2, 24, 0] = some F120 := by kernel_rfl
theorem t85 : isFun 85 [5, 4, 0, 1] = some F85 := by kernel_rfl
theorem t84 : isFun 84 [9, 5, 8, 26, 39, 38, 7, 37, 1, 43, 40, 41, 42, 45, 44, 46, 6, 0, 2, 47] = some F84 := by kernel_rfl
theorem t121 : isFun 121 [2, 0] = some F121 := by kernel_rfl
theorem t20 : isFun 20 [8, 10, 9, 2, 12, 6, 7, 13, 68, 11, 0, 31, 27, 38, 20, 69, 71, 1, 82, 91, 59] = some F20 := by kernel_rfl
theorem t45 : isFun 45 [6, 5, 20, 0, 31, 32, 34, 28, 29, 7, 30, 35, 33, 36, 8, 21, 59, 10, 43, 9, 4, 14, 3, 2] = some F45 := by kernel_rfl
theorem t89 : isFun 89 [2, 0, 4] = some F89 := by kernel_rfl
theorem t74 : isFun 74 [11, 4, 8, 28, 67, 57, 69, 54, 9, 68, 6, 49, 50, 51, 52, 53, 7, 73, 70, 71, 72, 75, 74, 76, 10, 66, 48, 29, 58, 35, 0, 5, 3, 26, 14, 91, 2] = some F74 := by kernel_rfl
theorem t72 : isFun 72 [0, 2, 4] = some F72 := by kernel_rfl
theorem t96 : isFun 96 [1, 4, 0] = some F96 := by kernel_rfl
theorem t71 : isFun 71 [4, 0, 1] = some F71 := by kernel_rfl
theorem t112 : isFun 112 [5, 4, 0, 1] = some F112 := by kernel_rfl
theorem t113 : isFun 113 [2, 0] = some F113 := by kernel_rfl
theorem t147 : isFun 147 [4, 0, 1] = some F147 := by kernel_rfl
theorem t170 : isFun 170 [8, 5, 0, 9, 7, 1, 16, 4] = some F170 := by kernel_rfl
theorem t148 : isFun 148 [2, 0] = some F148 := by kernel_rfl
theorem t114 : isFun 114 [20, 4, 0, 3, 21, 2, 9, 10, 11, 12, 13, 14, 15, 16, 17, 18, 19, 5, 6, 7, 8] = some F114 := by kernel_rfl
theorem t115 : isFun 115 [8, 25, 4, 7, 9, 2, 30, 26, 24, 48, 0, 66, 6, 22, 1] = some F115 := by kernel_rfl
theorem t131 : isFun 131 [2, 0] = some F131 := by kernel_rfl
theorem t90 : isFun 90 [7, 10, 6, 4, 8, 5, 9, 11, 0, 46, 53, 3, 2] = some F90 := by kernel_rfl
theorem t126 : isFun 126 [1, 0, 4, 13, 22, 6, 32, 5] = some F126 := by kernel_rfl
theorem t156 : isFun 156 [0, 1, 17, 4] = some F156 := by kernel_rfl
theorem t157 : isFun 157 [2, 4, 5, 0, 9, 16, 3] = some F157 := by kernel_rfl
theorem t158 : isFun 158 [0, 1, 7, 16, 4] = some F158 := by kernel_rfl
theorem t178 : isFun 178 [4, 0, 1] = some F178 := by kernel_rfl
theorem t159 : isFun 159 [0, 5, 18, 9, 27, 1, 6, 4] = some F159 := by kernel_rfl
theorem t179 : isFun 179 [5, 0, 6, 35, 28, 4, 2, 3, 50, 10, 37, 19] = some F179 := by kernel_rfl
theorem t185 : isFun 185 [2, 0] = some F185 := by kernel_rfl
theorem t186 : isFun 186 [8, 5, 9, 7, 6, 13, 0, 3, 2] = some F186 := by kernel_rfl
theorem t187 : isFun 187 [0, 10, 6, 5, 11, 8, 12, 4, 7, 9, 47, 16, 60, 62, 24, 79, 81, 3, 103, 2] = some F187 := by kernel_rfl
theorem t180 : isFun 180 [6, 9, 8, 10, 1, 14, 4, 0] = some F180 := by kernel_rfl
theorem t15 : isFun 15 [4, 7, 0, 8, 6, 3, 38, 2] = some F15 := by kernel_rfl
theorem t127 : isFun 127 [3, 0, 2, 1] = some F127 := by kernel_rfl
theorem t58 : isFun 58 [4, 0, 1] = some F58 := by kernel_rfl
theorem t48 : isFun 48 [8, 5, 0, 9, 7, 1, 16, 4] = some F48 := by kernel_rfl
theorem t91 : isFun 91 [37, 7, 32, 22, 36, 30, 31, 29, 33, 34, 35, 42, 38, 39, 40, 41, 45, 43, 44, 46, 3, 0, 23, 20, 56, 21, 28, 62, 9, 15, 8, 17, 5, 63, 77, 2] = some F91 := by kernel_rfl
theorem t128 : isFun 128 [1, 2] = some F128 := by kernel_rfl
theorem t63 : isFun 63 [9, 21, 3, 2, 0, 22, 20, 19, 27, 1] = some F63 := by kernel_rfl
theorem t13 : isFun 13 [4, 0, 6, 3, 5, 20, 18, 24, 2] = some F13 := by kernel_rfl
theorem t40 : isFun 40 [5, 0, 1, 4] = some F40 := by kernel_rfl
theorem t86 : isFun 86 [0, 1, 5, 9, 4] = some F86 := by kernel_rfl
theorem t122 : isFun 122 [1, 0, 4] = some F122 := by kernel_rfl
theorem t41 : isFun 41 [4, 0, 1] = some F41 := by kernel_rfl
theorem t87 : isFun 87 [0, 10, 11, 1, 3, 9, 36, 41, 2, 13, 8, 20, 15] = some F87 := by kernel_rfl
theorem t123 : isFun 123 [0, 7, 9, 1, 6, 25, 5, 18, 4, 43] = some F123 := by kernel_rfl
theorem t152 : isFun 152 [2, 4, 6, 0] = some F152 := by kernel_rfl
theorem t153 : isFun 153 [0, 3, 10, 2] = some F153 := by kernel_rfl
theorem t173 : isFun 173 [0, 10, 6, 5, 11, 8, 12, 4, 7, 9, 45, 16, 57, 59, 23, 75, 77, 3, 98, 2] = some F173 := by kernel_rfl
theorem t124 : isFun 124 [1, 0, 6, 5, 24, 4, 15, 9] = some F124 := by kernel_rfl
theorem t125 : isFun 125 [4, 0, 1] = some F125 := by kernel_rfl
theorem t155 : isFun 155 [8, 0, 1, 5, 9, 10, 6, 11, 12, 13, 64, 114, 107, 73, 7, 93, 59, 132, 139, 31, 36, 16, 4, 24] = some F155 := by kernel_rfl
theorem t174 : isFun 174 [4, 0, 1] = some F174 := by kernel_rfl
theorem t176 : isFun 176 [2, 0] = some F176 := by kernel_rfl
theorem t177 : isFun 177 [10, 0, 8, 7, 9, 1, 5, 6, 44, 20, 77, 4, 39] = some F177 := by kernel_rfl
theorem t184 : isFun 184 [8, 7, 5, 0, 4, 6, 25, 30, 12, 3, 2] = some F184 := by kernel_rfl
theorem t42 : isFun 42 [4, 0, 1] = some F42 := by kernel_rfl
theorem t88 : isFun 88 [8, 5, 0, 9, 7, 1, 16, 4] = some F88 := by kernel_rfl
theorem t43 : isFun 43 [2, 0] = some F43 := by kernel_rfl
theorem t46 : isFun 46 [13, 10, 6, 0, 14, 11, 12, 8, 25, 9, 5, 1, 4] = some F46 := by kernel_rfl
theorem t47 : isFun 47 [10, 8, 7, 1, 9, 21, 2, 5, 0, 26, 6] = some F47 := by kernel_rfl
theorem t92 : isFun 92 [3, 0, 2, 1] = some F92 := by kernel_rfl
theorem t49 : isFun 49 [2, 0, 1] = some F49 := by kernel_rfl
theorem t50 : isFun 50 [7, 1, 4, 6, 8, 46, 9, 44, 45, 43, 55, 47, 48, 54, 57, 56, 58, 59, 5, 17, 0, 24, 31, 35, 10, 42] = some F50 := by kernel_rfl
theorem t93 : isFun 93 [8, 5, 0, 9, 7, 1, 16, 4] = some F93 := by kernel_rfl
theorem t94 : isFun 94 [2, 0, 1] = some F94 := by kernel_rfl
theorem t95 : isFun 95 [0, 1, 5, 10, 8, 22, 7, 6, 4] = some F95 := by kernel_rfl
theorem t129 : isFun 129 [11, 8, 0, 9, 3, 2, 32, 38, 1, 10, 20, 49] = some F129 := by kernel_rfl
theorem t160 : isFun 160 [2, 1, 6, 0] = some F160 := by kernel_rfl
theorem t161 : isFun 161 [1, 0, 4] = some F161 := by kernel_rfl
theorem t162 : isFun 162 [1, 9, 7, 17, 19, 26, 8, 0, 10, 11, 12, 13, 20, 15, 16, 14, 18, 22, 23, 21, 25, 24, 2, 6] = some F162 := by kernel_rfl
theorem t97 : isFun 97 [9, 13, 16, 14, 15, 0, 10, 8, 3, 17, 4, 21, 19, 20, 23, 22, 24, 2, 25] = some F97 := by kernel_rfl
theorem t130 : isFun 130 [24, 1, 5, 25, 23, 4, 2, 14, 10, 11, 12, 13, 20, 15, 16, 17, 18, 19, 8, 21, 7, 6, 9, 0] = some F130 := by kernel_rfl
theorem t51 : isFun 51 [9, 7, 8, 3, 0, 1, 2, 10] = some F51 := by kernel_rfl
theorem t98 : isFun 98 [15, 90, 111, 11, 2, 10, 18, 16, 22, 3, 14, 19, 109, 89, 91, 88, 112, 74, 67, 110, 20, 21, 13, 1, 141, 12, 139, 140, 143, 142, 144, 9, 31, 36, 17, 87, 47, 0, 35, 39, 8] = some F98 := by kernel_rfl
theorem t70 : isFun 70 [5, 8, 25, 6, 7, 27, 26, 4, 0, 1, 16, 9] = some F70 := by kernel_rfl
theorem t110 : isFun 110 [4, 1, 0, 5, 6, 14] = some F110 := by kernel_rfl
theorem t24 : isFun 24 [6, 5, 3, 13, 4, 0, 2] = some F24 := by kernel_rfl
theorem t64 : isFun 64 [2, 0, 1, 11] = some F64 := by kernel_rfl
theorem t65 : isFun 65 [2, 0] = some F65 := by kernel_rfl
theorem t106 : isFun 106 [0, 2] = some F106 := by kernel_rfl
theorem t144 : isFun 144 [0, 2, 4, 8] = some F144 := by kernel_rfl
theorem t145 : isFun 145 [0, 2, 14, 8, 4] = some F145 := by kernel_rfl
theorem t105 : isFun 105 [1, 75, 0, 2, 14, 3, 11, 18, 8, 80, 12, 81, 10, 83, 82, 73, 74, 76, 77, 78, 79, 86, 84, 85, 16, 87, 17, 68, 35, 50, 9, 13, 15, 29, 72, 23, 113] = some F105 := by kernel_rfl
theorem t135 : isFun 135 [19, 7, 0, 48, 30, 28, 16, 17, 18, 35, 34, 20, 21, 22, 23, 24, 25, 26, 27, 40, 29, 33, 41, 36, 37, 38, 39, 45, 44, 42, 43, 46, 47, 1, 6, 2, 12] = some F135 := by kernel_rfl
theorem t141 : isFun 141 [1, 0, 4] = some F141 := by kernel_rfl
theorem t169 : isFun 169 [0, 2] = some F169 := by kernel_rfl
theorem t136 : isFun 136 [0, 6, 10, 9, 39, 37, 42, 33, 34, 35, 36, 38, 45, 40, 41, 46, 43, 44, 49, 48, 47, 50, 8, 7, 30, 19, 1, 2] = some F136 := by kernel_rfl
theorem t164 : isFun 164 [21, 9, 0, 3, 8, 74, 17, 18, 19, 20, 43, 2, 22, 49, 23, 24, 25, 26, 27, 28, 29, 30, 31, 32, 33, 34, 35, 36, 39, 40, 41, 42, 58, 44, 45, 46, 47, 48, 61, 50, 51, 52, 53, 54, 55, 56, 57, 66, 59, 60, 67, 62, 63, 64, 65, 71, 70, 68, 69, 72, 73, 16, 1] = some F164 := by kernel_rfl
theorem t137 : isFun 137 [10, 0, 9, 6, 1, 64, 55, 53, 50, 47, 48, 49, 51, 52, 54, 59, 56, 57, 58, 61, 60, 62, 63, 33, 8, 7, 43, 15, 2] = some F137 := by kernel_rfl
theorem t165 : isFun 165 [2, 0] = some F165 := by kernel_rfl
theorem t166 : isFun 166 [0, 12, 3, 21, 16, 6, 7, 8, 9, 10, 11, 4, 13, 14, 15, 23, 17, 18, 19, 20, 5, 22, 26, 24, 25, 28, 27, 29, 2] = some F166 := by kernel_rfl
theorem t138 : isFun 138 [8, 11, 9, 1, 0, 10, 49, 12, 7, 32, 34, 2, 51, 54, 6] = some F138 := by kernel_rfl
theorem t167 : isFun 167 [1, 6, 0, 2] = some F167 := by kernel_rfl
theorem t168 : isFun 168 [2, 0, 4, 1, 10, 3] = some F168 := by kernel_rfl
theorem t181 : isFun 181 [2, 1, 0, 10, 11, 12, 13, 14, 17, 15, 18, 16, 9, 3, 8] = some F181 := by kernel_rfl
theorem t139 : isFun 139 [7, 6, 0, 27, 20, 19, 17, 14, 15, 16, 18, 23, 21, 22, 25, 24, 26, 13, 2, 1] = some F139 := by kernel_rfl
theorem t140 : isFun 140 [0, 20, 9, 10, 7, 2, 85, 17, 75, 21, 22, 23, 24, 25, 26, 27, 28, 29, 30, 31, 32, 106, 18, 68, 69, 70, 71, 72, 73, 74, 76, 77, 78, 79, 80, 81, 82, 83, 84, 86, 87, 88, 89, 90, 91, 92, 93, 94, 19, 119, 107, 108, 109, 110, 111, 112, 113, 114, 115, 116, 117, 118, 126, 120, 121, 122, 123, 124, 125, 129, 127, 128, 131, 130, 132, 65, 103, 1, 50, 51, 52, 53, 54, 55, 56, 57, 45, 44, 8, 42, 43, 47, 46, 48, 49, 14, 41, 98, 61, 37, 6] = some F140 := by kernel_rfl
theorem t142 : isFun 142 [32, 49, 0, 9, 10, 1, 41, 54, 46, 29, 30, 31, 33, 34, 35, 36, 37, 38, 39, 40, 42, 43, 47, 48, 50, 51, 52, 57, 53, 55, 56, 58, 59, 68, 72, 65, 66, 67, 73, 69, 70, 71, 75, 76, 74, 78, 77, 64, 14, 19, 16, 12, 15, 17, 18, 3, 13, 23, 20, 21, 24, 22, 11, 8, 2] = some F142 := by kernel_rfl
theorem t143 : isFun 143 [118, 102, 0, 11, 10, 1, 104, 115, 108, 116, 99, 100, 101, 103, 105, 106, 107, 109, 110, 111, 112, 124, 123, 117, 119, 120, 121, 122, 127, 125, 126, 128, 129, 49, 33, 36, 37, 30, 38, 57, 39, 40, 41, 32, 42, 43, 46, 47, 48, 34, 50, 31, 51, 52, 53, 54, 55, 56, 139, 58, 59, 60, 35, 141, 135, 136, 137, 138, 144, 140, 145, 142, 143, 146, 148, 147, 134, 85, 94, 78, 12, 13, 14, 3, 15, 16, 17, 18, 19, 20, 21, 22, 23, 24, 25, 87, 66, 67, 68, 69, 70, 71, 72, 73, 74, 75, 76, 77, 153, 79, 81, 82, 83, 84, 156, 86, 157, 88, 89, 90, 91, 92, 93, 160, 154, 155, 163, 162, 158, 159, 161, 165, 164, 166, 65, 2, 9, 8] = some F143 := by kernel_rfl
theorem t22 : isFun 22 [7, 8, 6, 0, 10, 9, 1, 31, 5, 42, 27, 50, 20, 12, 13, 4] = some F22 := by kernel_rfl
theorem t59 : isFun 59 [2, 0, 1] = some F59 := by kernel_rfl
theorem t60 : isFun 60 [3, 8, 7, 4, 5, 1, 6, 10, 9, 11, 12, 2, 0] = some F60 := by kernel_rfl
theorem t61 : isFun 61 [25, 6, 26, 10, 24, 1, 8, 5, 19, 22, 7, 0, 4] = some F61 := by kernel_rfl
theorem t103 : isFun 103 [0, 1, 5] = some F103 := by kernel_rfl
theorem t134 : isFun 134 [1, 8, 0, 17, 7, 2, 6] = some F134 := by kernel_rfl
theorem t17 : isFun 17 [5, 0, 19, 22, 20, 17, 18, 21, 24, 23, 25, 1, 14, 10, 4] = some F17 := by kernel_rfl

noncomputable def tbd : TbD := ⟨tbl, memF pu⟩

theorem allOk : T.All tbl (fun k f => ∃ S, isFun k S = some f) :=
  ⟨trivial, ⟨trivial, ⟨trivial, trivial, ⟨⟨_, t137⟩, trivial, trivial, trivial, trivial, trivial, trivial, trivial, trivial⟩, trivial, trivial, trivial, trivial, trivial, trivial⟩, ⟨⟨_, t17⟩, ⟨⟨_, t81⟩, trivial, trivial, trivial, trivial, trivial, trivial, trivial, trivial⟩, ⟨⟨_, t145⟩, trivial, trivial, trivial, trivial, trivial, trivial, trivial, trivial⟩, trivial, trivial, trivial, trivial, trivial, trivial⟩, ⟨trivial, ⟨⟨_, t89⟩, trivial, trivial, trivial, trivial, trivial, trivial, trivial, trivial⟩, ⟨⟨_, t153⟩, trivial, trivial, trivial, trivial, trivial, trivial, trivial, trivial⟩, trivial, trivial, trivial, trivial, trivial, trivial⟩, ⟨trivial, ⟨⟨_, t97⟩, trivial, trivial, trivial, trivial, trivial, trivial, trivial, trivial⟩, ⟨⟨_, t161⟩, trivial, trivial, trivial, trivial, trivial, trivial, trivial, trivial⟩, trivial, trivial, trivial, trivial, trivial, trivial⟩, ⟨⟨_, t41⟩, ⟨⟨_, t105⟩, trivial, trivial, trivial, trivial, trivial, trivial, trivial, trivial⟩, ⟨⟨_, t169⟩, trivial, trivial, trivial, trivial, trivial, trivial, trivial, trivial⟩, trivial, trivial, trivial, trivial, trivial, trivial⟩, ⟨⟨_, t49⟩, ⟨⟨_, t113⟩, trivial, trivial, trivial, trivial, trivial, trivial, trivial, trivial⟩, ⟨⟨_, t177⟩, trivial, trivial, trivial, trivial, trivial, trivial, trivial, trivial⟩, trivial, trivial, trivial, trivial, trivial, trivial⟩, ⟨trivial, ⟨⟨_, t121⟩, trivial, trivial, trivial, trivial, trivial, trivial, trivial, trivial⟩, ⟨⟨_, t185⟩, trivial, trivial, trivial, trivial, trivial, trivial, trivial, trivial⟩, trivial, trivial, trivial, trivial, trivial, trivial⟩, ⟨⟨_, t65⟩, ⟨⟨_, t129⟩, trivial, trivial, trivial, trivial, trivial, trivial, trivial, trivial⟩, trivial, trivial, trivial, trivial, trivial, trivial, trivial⟩⟩, ⟨trivial, ⟨trivial, ⟨⟨_, t74⟩, trivial, trivial, trivial, trivial, trivial, trivial, trivial, trivial⟩, ⟨⟨_, t138⟩, trivial, trivial, trivial, trivial, trivial, trivial, trivial, trivial⟩, trivial, trivial, trivial, trivial, trivial, trivial⟩, ⟨trivial, ⟨⟨_, t82⟩, trivial, trivial, trivial, trivial, trivial, trivial, trivial, trivial⟩, trivial, trivial, trivial, trivial, trivial, trivial, trivial⟩, ⟨trivial, ⟨⟨_, t90⟩, trivial, trivial, trivial, trivial, trivial, trivial, trivial, trivial⟩, trivial, trivial, trivial, trivial, trivial, trivial, trivial⟩, ⟨trivial, ⟨⟨_, t98⟩, trivial, trivial, trivial, trivial, trivial, trivial, trivial, trivial⟩, ⟨⟨_, t162⟩, trivial, trivial, trivial, trivial, trivial, trivial, trivial, trivial⟩, trivial, trivial, trivial, trivial, trivial, trivial⟩, ⟨⟨_, t42⟩, ⟨⟨_, t106⟩, trivial, trivial, trivial, trivial, trivial, trivial, trivial, trivial⟩, ⟨⟨_, t170⟩, trivial, trivial, trivial, trivial, trivial, trivial, trivial, trivial⟩, trivial, trivial, trivial, trivial, trivial, trivial⟩, ⟨⟨_, t50⟩, ⟨⟨_, t114⟩, trivial, trivial, trivial, trivial, trivial, trivial, trivial, trivial⟩, ⟨⟨_, t178⟩, trivial, trivial, trivial, trivial, trivial, trivial, trivial, trivial⟩, trivial, trivial, trivial, trivial, trivial, trivial⟩, ⟨⟨_, t58⟩, ⟨⟨_, t122⟩, trivial, trivial, trivial, trivial, trivial, trivial, trivial, trivial⟩, ⟨⟨_, t186⟩, trivial, trivial, trivial, trivial, trivial, trivial, trivial, trivial⟩, trivial, trivial, trivial, trivial, trivial, trivial⟩, ⟨trivial, ⟨⟨_, t130⟩, trivial, trivial, trivial, trivial, trivial, trivial, trivial, trivial⟩, trivial, trivial, trivial, trivial, trivial, trivial, trivial⟩⟩, ⟨trivial, ⟨trivial, trivial, ⟨⟨_, t139⟩, trivial, trivial, trivial, trivial, trivial, trivial, trivial, trivial⟩, trivial, trivial, trivial, trivial, trivial, trivial⟩, ⟨trivial, ⟨⟨_, t83⟩, trivial, trivial, trivial, trivial, trivial, trivial, trivial, trivial⟩, ⟨⟨_, t147⟩, trivial, trivial, trivial, trivial, trivial, trivial, trivial, trivial⟩, trivial, trivial, trivial, trivial, trivial, trivial⟩, ⟨trivial, ⟨⟨_, t91⟩, trivial, trivial, trivial, trivial, trivial, trivial, trivial, trivial⟩, ⟨⟨_, t155⟩, trivial, trivial, trivial, trivial, trivial, trivial, trivial, trivial⟩, trivial, trivial, trivial, trivial, trivial, trivial⟩, trivial, ⟨⟨_, t43⟩, trivial, ⟨⟨_, t171⟩, trivial, trivial, trivial, trivial, trivial, trivial, trivial, trivial⟩, trivial, trivial, trivial, trivial, trivial, trivial⟩, ⟨⟨_, t51⟩, ⟨⟨_, t115⟩, trivial, trivial, trivial, trivial, trivial, trivial, trivial, trivial⟩, ⟨⟨_, t179⟩, trivial, trivial, trivial, trivial, trivial, trivial, trivial, trivial⟩, trivial, trivial, trivial, trivial, trivial, trivial⟩, ⟨⟨_, t59⟩, ⟨⟨_, t123⟩, trivial, trivial, trivial, trivial, trivial, trivial, trivial, trivial⟩, ⟨⟨_, t187⟩, trivial, trivial, trivial, trivial, trivial, trivial, trivial, trivial⟩, trivial, trivial, trivial, trivial, trivial, trivial⟩, ⟨trivial, ⟨⟨_, t131⟩, trivial, trivial, trivial, trivial, trivial, trivial, trivial, trivial⟩, trivial, trivial, trivial, trivial, trivial, trivial, trivial⟩⟩, ⟨trivial, ⟨⟨_, t12⟩, trivial, ⟨⟨_, t140⟩, trivial, trivial, trivial, trivial, trivial, trivial, trivial, trivial⟩, trivial, trivial, trivial, trivial, trivial, trivial⟩, ⟨⟨_, t20⟩, ⟨⟨_, t84⟩, trivial, trivial, trivial, trivial, trivial, trivial, trivial, trivial⟩, ⟨⟨_, t148⟩, trivial, trivial, trivial, trivial, trivial, trivial, trivial, trivial⟩, trivial, trivial, trivial, trivial, trivial, trivial⟩, ⟨trivial, ⟨⟨_, t92⟩, trivial, trivial, trivial, trivial, trivial, trivial, trivial, trivial⟩, ⟨⟨_, t156⟩, trivial, trivial, trivial, trivial, trivial, trivial, trivial, trivial⟩, trivial, trivial, trivial, trivial, trivial, trivial⟩, ⟨trivial, trivial, ⟨⟨_, t164⟩, trivial, trivial, trivial, trivial, trivial, trivial, trivial, trivial⟩, trivial, trivial, trivial, trivial, trivial, trivial⟩, ⟨trivial, trivial, ⟨⟨_, t172⟩, trivial, trivial, trivial, trivial, trivial, trivial, trivial, trivial⟩, trivial, trivial, trivial, trivial, trivial, trivial⟩, ⟨trivial, trivial, ⟨⟨_, t180⟩, trivial, trivial, trivial, trivial, trivial, trivial, trivial, trivial⟩, trivial, trivial, trivial, trivial, trivial, trivial⟩, ⟨⟨_, t60⟩, ⟨⟨_, t124⟩, trivial, trivial, trivial, trivial, trivial, trivial, trivial, trivial⟩, trivial, trivial, trivial, trivial, trivial, trivial, trivial⟩, trivial⟩, ⟨trivial, ⟨⟨_, t13⟩, trivial, ⟨⟨_, t141⟩, trivial, trivial, trivial, trivial, trivial, trivial, trivial, trivial⟩, trivial, trivial, trivial, trivial, trivial, trivial⟩, ⟨trivial, ⟨⟨_, t85⟩, trivial, trivial, trivial, trivial, trivial, trivial, trivial, trivial⟩, trivial, trivial, trivial, trivial, trivial, trivial, trivial⟩, ⟨trivial, ⟨⟨_, t93⟩, trivial, trivial, trivial, trivial, trivial, trivial, trivial, trivial⟩, ⟨⟨_, t157⟩, trivial, trivial, trivial, trivial, trivial, trivial, trivial, trivial⟩, trivial, trivial, trivial, trivial, trivial, trivial⟩, ⟨trivial, trivial, ⟨⟨_, t165⟩, trivial, trivial, trivial, trivial, trivial, trivial, trivial, trivial⟩, trivial, trivial, trivial, trivial, trivial, trivial⟩, ⟨⟨_, t45⟩, trivial, ⟨⟨_, t173⟩, trivial, trivial, trivial, trivial, trivial, trivial, trivial, trivial⟩, trivial, trivial, trivial, trivial, trivial, trivial⟩, ⟨trivial, trivial, ⟨⟨_, t181⟩, trivial, trivial, trivial, trivial, trivial, trivial, trivial, trivial⟩, trivial, trivial, trivial, trivial, trivial, trivial⟩, ⟨⟨_, t61⟩, ⟨⟨_, t125⟩, trivial, trivial, trivial, trivial, trivial, trivial, trivial, trivial⟩, trivial, trivial, trivial, trivial, trivial, trivial, trivial⟩, trivial⟩, ⟨trivial, ⟨trivial, trivial, ⟨⟨_, t142⟩, trivial, trivial, trivial, trivial, trivial, trivial, trivial, trivial⟩, trivial, trivial, trivial, trivial, trivial, trivial⟩, ⟨⟨_, t22⟩, ⟨⟨_, t86⟩, trivial, trivial, trivial, trivial, trivial, trivial, trivial, trivial⟩, ⟨⟨_, t150⟩, trivial, trivial, trivial, trivial, trivial, trivial, trivial, trivial⟩, trivial, trivial, trivial, trivial, trivial, trivial⟩, ⟨trivial, ⟨⟨_, t94⟩, trivial, trivial, trivial, trivial, trivial, trivial, trivial, trivial⟩, ⟨⟨_, t158⟩, trivial, trivial, trivial, trivial, trivial, trivial, trivial, trivial⟩, trivial, trivial, trivial, trivial, trivial, trivial⟩, ⟨trivial, trivial, ⟨⟨_, t166⟩, trivial, trivial, trivial, trivial, trivial, trivial, trivial, trivial⟩, trivial, trivial, trivial, trivial, trivial, trivial⟩, ⟨⟨_, t46⟩, ⟨⟨_, t110⟩, trivial, trivial, trivial, trivial, trivial, trivial, trivial, trivial⟩, ⟨⟨_, t174⟩, trivial, trivial, trivial, trivial, trivial, trivial, trivial, trivial⟩, trivial, trivial, trivial, trivial, trivial, trivial⟩, ⟨trivial, trivial, ⟨⟨_, t182⟩, trivial, trivial, trivial, trivial, trivial, trivial, trivial, trivial⟩, trivial, trivial, trivial, trivial, trivial, trivial⟩, ⟨trivial, ⟨⟨_, t126⟩, trivial, trivial, trivial, trivial, trivial, trivial, trivial, trivial⟩, trivial, trivial, trivial, trivial, trivial, trivial, trivial⟩, ⟨⟨_, t70⟩, ⟨⟨_, t134⟩, trivial, trivial, trivial, trivial, trivial, trivial, trivial, trivial⟩, trivial, trivial, trivial, trivial, trivial, trivial, trivial⟩⟩, ⟨trivial, ⟨⟨_, t15⟩, trivial, ⟨⟨_, t143⟩, trivial, trivial, trivial, trivial, trivial, trivial, trivial, trivial⟩, trivial, trivial, trivial, trivial, trivial, trivial⟩, ⟨trivial, ⟨⟨_, t87⟩, trivial, trivial, trivial, trivial, trivial, trivial, trivial, trivial⟩, ⟨⟨_, t151⟩, trivial, trivial, trivial, trivial, trivial, trivial, trivial, trivial⟩, trivial, trivial, trivial, trivial, trivial, trivial⟩, ⟨trivial, ⟨⟨_, t95⟩, trivial, trivial, trivial, trivial, trivial, trivial, trivial, trivial⟩, ⟨⟨_, t159⟩, trivial, trivial, trivial, trivial, trivial, trivial, trivial, trivial⟩, trivial, trivial, trivial, trivial, trivial, trivial⟩, ⟨⟨_, t39⟩, ⟨⟨_, t103⟩, trivial, trivial, trivial, trivial, trivial, trivial, trivial, trivial⟩, ⟨⟨_, t167⟩, trivial, trivial, trivial, trivial, trivial, trivial, trivial, trivial⟩, trivial, trivial, trivial, trivial, trivial, trivial⟩, ⟨⟨_, t47⟩, trivial, trivial, trivial, trivial, trivial, trivial, trivial, trivial⟩, ⟨trivial, ⟨⟨_, t119⟩, trivial, trivial, trivial, trivial, trivial, trivial, trivial, trivial⟩, trivial, trivial, trivial, trivial, trivial, trivial, trivial⟩, ⟨⟨_, t63⟩, ⟨⟨_, t127⟩, trivial, trivial, trivial, trivial, trivial, trivial, trivial, trivial⟩, trivial, trivial, trivial, trivial, trivial, trivial, trivial⟩, ⟨⟨_, t71⟩, ⟨⟨_, t135⟩, trivial, trivial, trivial, trivial, trivial, trivial, trivial, trivial⟩, trivial, trivial, trivial, trivial, trivial, trivial, trivial⟩⟩, ⟨trivial, ⟨trivial, ⟨⟨_, t80⟩, trivial, trivial, trivial, trivial, trivial, trivial, trivial, trivial⟩, ⟨⟨_, t144⟩, trivial, trivial, trivial, trivial, trivial, trivial, trivial, trivial⟩, trivial, trivial, trivial, trivial, trivial, trivial⟩, ⟨⟨_, t24⟩, ⟨⟨_, t88⟩, trivial, trivial, trivial, trivial, trivial, trivial, trivial, trivial⟩, ⟨⟨_, t152⟩, trivial, trivial, trivial, trivial, trivial, trivial, trivial, trivial⟩, trivial, trivial, trivial, trivial, trivial, trivial⟩, ⟨trivial, ⟨⟨_, t96⟩, trivial, trivial, trivial, trivial, trivial, trivial, trivial, trivial⟩, ⟨⟨_, t160⟩, trivial, trivial, trivial, trivial, trivial, trivial, trivial, trivial⟩, trivial, trivial, trivial, trivial, trivial, trivial⟩, ⟨⟨_, t40⟩, trivial, ⟨⟨_, t168⟩, trivial, trivial, trivial, trivial, trivial, trivial, trivial, trivial⟩, trivial, trivial, trivial, trivial, trivial, trivial⟩, ⟨⟨_, t48⟩, ⟨⟨_, t112⟩, trivial, trivial, trivial, trivial, trivial, trivial, trivial, trivial⟩, ⟨⟨_, t176⟩, trivial, trivial, trivial, trivial, trivial, trivial, trivial, trivial⟩, trivial, trivial, trivial, trivial, trivial, trivial⟩, ⟨trivial, ⟨⟨_, t120⟩, trivial, trivial, trivial, trivial, trivial, trivial, trivial, trivial⟩, ⟨⟨_, t184⟩, trivial, trivial, trivial, trivial, trivial, trivial, trivial, trivial⟩, trivial, trivial, trivial, trivial, trivial, trivial⟩, ⟨⟨_, t64⟩, ⟨⟨_, t128⟩, trivial, trivial, trivial, trivial, trivial, trivial, trivial, trivial⟩, trivial, trivial, trivial, trivial, trivial, trivial, trivial⟩, ⟨⟨_, t72⟩, ⟨⟨_, t136⟩, trivial, trivial, trivial, trivial, trivial, trivial, trivial, trivial⟩, trivial, trivial, trivial, trivial, trivial, trivial, trivial⟩⟩⟩

theorem tbdOk : TbDOk Go.Proofs.Tryz.prog pu tbd := fun g fd h => by
  obtain ⟨S, hS⟩ := T.All_get 8 allOk h
  simp only [isFun, Option.bind_eq_some_iff, Option.map_eq_some_iff] at hS
  obtain ⟨fn, h1, f, h2, h3⟩ := hS
  exact ⟨fn, S, f, h1, h2, h3.symm⟩

theorem mixed : (Go.Proofs.Tryz.prog).follows .mixedOrders = true := by kernel_rfl

theorem spec_of {g : FuncId} (h : isTrue (callD tbd 100 g [] ⟨.l, 0, 0⟩ fun v _ => .ok v) = true) : Go.Sx.PureSpec Go.Proofs.Tryz.prog g [] (fun _ => True) (fun v F => v = .bool true) :=
  spec_true mixed tbdOk (fun _ => memF_mem) h

end Go.Ye.Tb
