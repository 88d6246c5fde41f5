/- Parts of the proof, one behind the other: Lays, Tab, AbC4, AbC6, Base, LibA, PathA, StrA. No further condition. -/
import Derived.Test.YteimhnedflbkmaaDoorM06
import Derived.Test.YteimhnedflbkmaaDoorProg
import Derived.KernelRfl
import Derived.Test.YteimhnedflbkmaaDoorM03
import Derived.Test.YteimhnedflbkmaaDoorM05
import Derived.Laws.BytesString
import Derived.Lib.ConvBytes
import Derived.Laws.AppendOwn
import Derived.Test.YteimhnedflbkmaaDoorChecked
set_option linter.unusedVariables false
set_option linter.unusedSimpArgs false
/- Facts of the seat's translation on which the library's contracts lean. No further condition. -/
namespace Go.Proofs.YteimhnedflbkmaaDoor
open Go.Proofs Go.Shelf
def ren : Go.Shelf.Ren := ⟨fun | 119 => 92 | 137 => 91 | 138 => 53 | 143 => 68 | 146 => 46 | 148 => 65 | 150 => 61 | 152 => 79 | 153 => 72 | 156 => 49 | 165 => 62 | 166 => 63 | 169 => 64 | 195 => 66 | 197 => 78 | 217 => 86 | 218 => 67 | 219 => 77 | 221 => 60 | 222 => 75 | 223 => 76 | 224 => 88 | 225 => 87 | 226 => 80 | 227 => 81 | 228 => 82 | 240 => 73 | 241 => 74 | 260 => 90 | 266 => 93 | 267 => 89 | 268 => 71 | 269 => 85 | 276 => 83 | 277 => 84 | 314 => 94 | n => n, fun | 0 => 0 | 3 => 3 | 4 => 4 | 5 => 5 | 9 => 9 | 20 => 20 | 21 => 21 | 31 => 48 | 37 => 49 | 46 => 50 | 51 => 93 | 70 => 68 | 72 => 70 | 75 => 73 | 76 => 74 | 80 => 76 | 105 => 82 | 116 => 86 | 117 => 87 | 119 => 99 | 124 => 98 | 127 => 81 | 138 => 101 | 139 => 102 | 146 => 94 | 164 => 90 | n => n, fun | 1 => 0 | 3 => 1 | 4 => 2 | n => n⟩
theorem lays146 : Lays.n146 Tryd.prog ren := { 
  mixed := by kernel_rfl
  f138 := Tryd.func53.trans (congrArg some (by kernel_rfl))
  f143 := Tryd.func68.trans (congrArg some (by kernel_rfl))
  f146 := Tryd.func46.trans (congrArg some (by kernel_rfl))
  f195 := Tryd.func66.trans (congrArg some (by kernel_rfl))
  f197 := Tryd.func78.trans (congrArg some (by kernel_rfl))
  f217 := Tryd.func86.trans (congrArg some (by kernel_rfl))
  f218 := Tryd.func67.trans (congrArg some (by kernel_rfl))
  f219 := Tryd.func77.trans (congrArg some (by kernel_rfl))
  f221 := Tryd.func60.trans (congrArg some (by kernel_rfl))
  f224 := Tryd.func88.trans (congrArg some (by kernel_rfl))
  f225 := Tryd.func87.trans (congrArg some (by kernel_rfl))
  f260 := Tryd.func90.trans (congrArg some (by kernel_rfl))
  f266 := Tryd.func93.trans (congrArg some (by kernel_rfl))
  f267 := Tryd.func89.trans (congrArg some (by kernel_rfl))
  f268 := Tryd.func71.trans (congrArg some (by kernel_rfl))
  f314 := Tryd.func94.trans (congrArg some (by kernel_rfl))
  t0 := Tryd.underlying0
  a0 := Tryd.isAgg0
  z0 := Tryd.sizeOf0
  v0 := Tryd.zeroValue0
  t3 := Tryd.underlying3
  a3 := Tryd.isAgg3
  z3 := Tryd.sizeOf3
  v3 := Tryd.zeroValue3
  t4 := Tryd.underlying4
  a4 := Tryd.isAgg4
  z4 := Tryd.sizeOf4
  v4 := Tryd.zeroValue4
  t5 := Tryd.underlying5
  a5 := Tryd.isAgg5
  z5 := Tryd.sizeOf5
  v5 := Tryd.zeroValue5
  t9 := Tryd.underlying9
  a9 := Tryd.isAgg9
  z9 := Tryd.sizeOf9
  v9 := Tryd.zeroValue9
  t21 := Tryd.underlying21
  a21 := Tryd.isAgg21
  z21 := Tryd.sizeOf21
  v21 := Tryd.zeroValue21
  t31 := Tryd.underlying48
  a31 := Tryd.isAgg48
  z31 := Tryd.sizeOf48
  v31 := Tryd.zeroValue48
  t46 := Tryd.underlying50
  a46 := Tryd.isAgg50
  z46 := Tryd.sizeOf50
  v46 := Tryd.zeroValue50
  t51 := Tryd.underlying93
  a51 := Tryd.isAgg93
  z51 := Tryd.sizeOf93
  v51 := Tryd.zeroValue93
  t105 := Tryd.underlying82
  a105 := Tryd.isAgg82
  z105 := Tryd.sizeOf82
  v105 := Tryd.zeroValue82
  t119 := Tryd.underlying99
  a119 := Tryd.isAgg99
  z119 := Tryd.sizeOf99
  t138 := Tryd.underlying101
  a138 := Tryd.isAgg101
  z138 := Tryd.sizeOf101
  v138 := Tryd.zeroValue101
  t139 := Tryd.underlying102
  a139 := Tryd.isAgg102
  z139 := Tryd.sizeOf102
  v139 := Tryd.zeroValue102
  t146 := Tryd.underlying94
  a146 := Tryd.isAgg94
  z146 := Tryd.sizeOf94
  v146 := Tryd.zeroValue94
  g1 := by kernel_rfl
  g3 := by kernel_rfl
  g4 := by kernel_rfl }
theorem lays148 : Lays.n148 Tryd.prog ren := { lays146 with
  f148 := Tryd.func65.trans (congrArg some (by kernel_rfl))
  f222 := Tryd.func75.trans (congrArg some (by kernel_rfl))
  f223 := Tryd.func76.trans (congrArg some (by kernel_rfl))
  f269 := Tryd.func85.trans (congrArg some (by kernel_rfl)) }
theorem lays150 : Lays.n150 Tryd.prog ren := { lays148, lays146 with
  f119 := Tryd.func92.trans (congrArg some (by kernel_rfl))
  f137 := Tryd.func91.trans (congrArg some (by kernel_rfl))
  f150 := Tryd.func61.trans (congrArg some (by kernel_rfl))
  f152 := Tryd.func79.trans (congrArg some (by kernel_rfl))
  f153 := Tryd.func72.trans (congrArg some (by kernel_rfl))
  f226 := Tryd.func80.trans (congrArg some (by kernel_rfl))
  f227 := Tryd.func81.trans (congrArg some (by kernel_rfl))
  f228 := Tryd.func82.trans (congrArg some (by kernel_rfl))
  t116 := Tryd.underlying86
  a116 := Tryd.isAgg86
  z116 := Tryd.sizeOf86
  t117 := Tryd.underlying87
  a117 := Tryd.isAgg87
  z117 := Tryd.sizeOf87
  v117 := Tryd.zeroValue87
  t124 := Tryd.underlying98
  a124 := Tryd.isAgg98
  z124 := Tryd.sizeOf98
  v124 := Tryd.zeroValue98 }
theorem lays156 : Lays.n156 Tryd.prog ren := { lays150, lays146 with
  f156 := Tryd.func49.trans (congrArg some (by kernel_rfl))
  f165 := Tryd.func62.trans (congrArg some (by kernel_rfl))
  f166 := Tryd.func63.trans (congrArg some (by kernel_rfl))
  f169 := Tryd.func64.trans (congrArg some (by kernel_rfl))
  f240 := Tryd.func73.trans (congrArg some (by kernel_rfl))
  f241 := Tryd.func74.trans (congrArg some (by kernel_rfl))
  f276 := Tryd.func83.trans (congrArg some (by kernel_rfl))
  f277 := Tryd.func84.trans (congrArg some (by kernel_rfl))
  t20 := Tryd.underlying20
  a20 := Tryd.isAgg20
  z20 := Tryd.sizeOf20
  v20 := Tryd.zeroValue20
  t37 := Tryd.underlying49
  a37 := Tryd.isAgg49
  z37 := Tryd.sizeOf49
  v37 := Tryd.zeroValue49
  t70 := Tryd.underlying68
  a70 := Tryd.isAgg68
  z70 := Tryd.sizeOf68
  v70 := Tryd.zeroValue68
  t72 := Tryd.underlying70
  a72 := Tryd.isAgg70
  z72 := Tryd.sizeOf70
  v72 := Tryd.zeroValue70
  t75 := Tryd.underlying73
  a75 := Tryd.isAgg73
  z75 := Tryd.sizeOf73
  v75 := Tryd.zeroValue73
  t76 := Tryd.underlying74
  a76 := Tryd.isAgg74
  z76 := Tryd.sizeOf74
  v76 := Tryd.zeroValue74
  t127 := Tryd.underlying81
  a127 := Tryd.isAgg81
  z127 := Tryd.sizeOf81
  v127 := Tryd.zeroValue81
  t164 := Tryd.underlying90
  a164 := Tryd.isAgg90
  z164 := Tryd.sizeOf90
  v164 := Tryd.zeroValue90 }
theorem laysX : Builder.Extra Tryd.prog ren := { lays146, lays148, lays150 with
  sizeBuilder := by kernel_rfl
  liesBuilder := by kernel_rfl
  infoByte := by kernel_rfl
  cellsByte := by kernel_rfl
  sizeByte := by kernel_rfl
  neB5 := by decide }
end Go.Proofs.YteimhnedflbkmaaDoor

/- The seat's types. -/
namespace Go.Proofs.YteimhnedflbkmaaDoor
def tab : Go.Ab.Tab := [
  (1, ⟨1, 8, .other, [.nilFunc]⟩),
  (2, ⟨1, 8, .int .i64, [.int .i64 0]⟩),
  (3, ⟨1, 8, .int .i64, [.int .i64 0]⟩),
  (4, ⟨1, 1, .bool, [.bool false]⟩),
  (5, ⟨1, 1, .int .u8, [.int .u8 0]⟩),
  (6, ⟨1, 1, .int .u8, [.int .u8 0]⟩),
  (7, ⟨4, 24, .struct [(0, 2), (1, 3), (2, 4), (3, 6)], [.int .i64 0, .int .i64 0, .bool false, .int .u8 0]⟩),
  (8, ⟨4, 24, .struct [(0, 2), (1, 3), (2, 4), (3, 6)], [.int .i64 0, .int .i64 0, .bool false, .int .u8 0]⟩),
  (9, ⟨1, 16, .str, [.str []]⟩),
  (10, ⟨1, 16, .str, [.str []]⟩),
  (11, ⟨1, 16, .str, [.str []]⟩),
  (12, ⟨1, 8, .int .u64, [.int .u64 0]⟩),
  (13, ⟨2, 24, .struct [(0, 9), (1, 12)], [.str [], .int .u64 0]⟩),
  (14, ⟨2, 24, .struct [(0, 9), (1, 12)], [.str [], .int .u64 0]⟩),
  (15, ⟨1, 8, .ptr 104, [.nilptr]⟩),
  (16, ⟨1, 8, .ptr 107, [.nilptr]⟩),
  (17, ⟨1, 8, .ptr 115, [.nilptr]⟩),
  (18, ⟨1, 8, .struct [(0, 17)], [.nilptr]⟩),
  (19, ⟨1, 8, .struct [(0, 17)], [.nilptr]⟩),
  (20, ⟨1, 16, .iface, [.nilIface]⟩),
  (21, ⟨1, 4, .int .i32, [.int .i32 0]⟩),
  (22, ⟨2, 24, .struct [(0, 9), (1, 3)], [.str [], .int .i64 0]⟩),
  (23, ⟨2, 24, .struct [(0, 9), (1, 3)], [.str [], .int .i64 0]⟩),
  (24, ⟨1, 8, .other, [.nilFunc]⟩),
  (25, ⟨1, 8, .int .i64, [.int .i64 0]⟩),
  (27, ⟨1, 8, .other, [.nilFunc]⟩),
  (29, ⟨1, 8, .other, [.nilFunc]⟩),
  (30, ⟨1, 8, .other, [.nilFunc]⟩),
  (31, ⟨1, 8, .other, [.nilFunc]⟩),
  (32, ⟨1, 8, .other, [.nilFunc]⟩),
  (33, ⟨1, 8, .other, [.nilFunc]⟩),
  (34, ⟨1, 8, .other, [.nilFunc]⟩),
  (35, ⟨1, 8, .other, [.nilFunc]⟩),
  (36, ⟨1, 8, .other, [.nilFunc]⟩),
  (37, ⟨1, 8, .other, [.nilFunc]⟩),
  (38, ⟨1, 8, .other, [.nilFunc]⟩),
  (39, ⟨1, 8, .other, [.nilFunc]⟩),
  (40, ⟨1, 8, .other, [.nilFunc]⟩),
  (41, ⟨1, 8, .other, [.nilFunc]⟩),
  (42, ⟨1, 8, .other, [.nilFunc]⟩),
  (43, ⟨1, 8, .other, [.nilFunc]⟩),
  (45, ⟨1, 8, .other, [.nilFunc]⟩),
  (46, ⟨1, 8, .other, [.nilFunc]⟩),
  (47, ⟨1, 8, .other, [.nilFunc]⟩),
  (48, ⟨1, 24, .slice 9, [.sl 0 [] .full]⟩),
  (49, ⟨1, 24, .slice 5, [.sl 0 [] .full]⟩),
  (50, ⟨1, 8, .int .u64, [.int .u64 0]⟩),
  (51, ⟨1, 8, .other, [.nilFunc]⟩),
  (52, ⟨1, 8, .other, [.nilFunc]⟩),
  (53, ⟨2, 24, .struct [(0, 9), (1, 3)], [.str [], .int .i64 0]⟩),
  (55, ⟨1, 8, .other, [.nilFunc]⟩),
  (56, ⟨1, 8, .other, [.nilFunc]⟩),
  (57, ⟨1, 8, .other, [.nilFunc]⟩),
  (59, ⟨1, 8, .other, [.nilFunc]⟩),
  (61, ⟨1, 8, .other, [.nilFunc]⟩),
  (62, ⟨1, 8, .other, [.nilFunc]⟩),
  (63, ⟨1, 8, .other, [.nilFunc]⟩),
  (64, ⟨1, 8, .other, [.nilFunc]⟩),
  (65, ⟨1, 8, .other, [.nilFunc]⟩),
  (66, ⟨1, 8, .other, [.nilFunc]⟩),
  (67, ⟨1, 8, .other, [.nilFunc]⟩),
  (68, ⟨1, 8, .ptr 70, [.nilptr]⟩),
  (69, ⟨2, 32, .struct [(0, 68), (1, 49)], [.nilptr, .sl 0 [] .full]⟩),
  (70, ⟨2, 32, .struct [(0, 68), (1, 49)], [.nilptr, .sl 0 [] .full]⟩),
  (71, ⟨1, 8, .other, [.nilFunc]⟩),
  (72, ⟨1, 16, .iface, [.nilIface]⟩),
  (73, ⟨1, 16, .iface, [.nilIface]⟩),
  (75, ⟨1, 8, .other, [.nilFunc]⟩),
  (76, ⟨1, 8, .other, [.nilFunc]⟩),
  (77, ⟨1, 8, .other, [.nilFunc]⟩),
  (78, ⟨1, 24, .slice 3, [.sl 0 [] .full]⟩),
  (79, ⟨1, 8, .other, [.nilFunc]⟩),
  (80, ⟨1, 8, .other, [.nilFunc]⟩),
  (81, ⟨1, 8, .ptr 5, [.nilptr]⟩),
  (83, ⟨1, 8, .other, [.nilFunc]⟩),
  (84, ⟨1, 8, .other, [.nilFunc]⟩),
  (85, ⟨256, 256, .array 256 4, [.bool false, .bool false, .bool false, .bool false, .bool false, .bool false, .bool false, .bool false, .bool false, .bool false, .bool false, .bool false, .bool false, .bool false, .bool false, .bool false, .bool false, .bool false, .bool false, .bool false, .bool false, .bool false, .bool false, .bool false, .bool false, .bool false, .bool false, .bool false, .bool false, .bool false, .bool false, .bool false, .bool false, .bool false, .bool false, .bool false, .bool false, .bool false, .bool false, .bool false, .bool false, .bool false, .bool false, .bool false, .bool false, .bool false, .bool false, .bool false, .bool false, .bool false, .bool false, .bool false, .bool false, .bool false, .bool false, .bool false, .bool false, .bool false, .bool false, .bool false, .bool false, .bool false, .bool false, .bool false, .bool false, .bool false, .bool false, .bool false, .bool false, .bool false, .bool false, .bool false, .bool false, .bool false, .bool false, .bool false, .bool false, .bool false, .bool false, .bool false, .bool false, .bool false, .bool false, .bool false, .bool false, .bool false, .bool false, .bool false, .bool false, .bool false, .bool false, .bool false, .bool false, .bool false, .bool false, .bool false, .bool false, .bool false, .bool false, .bool false, .bool false, .bool false, .bool false, .bool false, .bool false, .bool false, .bool false, .bool false, .bool false, .bool false, .bool false, .bool false, .bool false, .bool false, .bool false, .bool false, .bool false, .bool false, .bool false, .bool false, .bool false, .bool false, .bool false, .bool false, .bool false, .bool false, .bool false, .bool false, .bool false, .bool false, .bool false, .bool false, .bool false, .bool false, .bool false, .bool false, .bool false, .bool false, .bool false, .bool false, .bool false, .bool false, .bool false, .bool false, .bool false, .bool false, .bool false, .bool false, .bool false, .bool false, .bool false, .bool false, .bool false, .bool false, .bool false, .bool false, .bool false, .bool false, .bool false, .bool false, .bool false, .bool false, .bool false, .bool false, .bool false, .bool false, .bool false, .bool false, .bool false, .bool false, .bool false, .bool false, .bool false, .bool false, .bool false, .bool false, .bool false, .bool false, .bool false, .bool false, .bool false, .bool false, .bool false, .bool false, .bool false, .bool false, .bool false, .bool false, .bool false, .bool false, .bool false, .bool false, .bool false, .bool false, .bool false, .bool false, .bool false, .bool false, .bool false, .bool false, .bool false, .bool false, .bool false, .bool false, .bool false, .bool false, .bool false, .bool false, .bool false, .bool false, .bool false, .bool false, .bool false, .bool false, .bool false, .bool false, .bool false, .bool false, .bool false, .bool false, .bool false, .bool false, .bool false, .bool false, .bool false, .bool false, .bool false, .bool false, .bool false, .bool false, .bool false, .bool false, .bool false, .bool false, .bool false, .bool false, .bool false, .bool false, .bool false, .bool false, .bool false, .bool false, .bool false, .bool false, .bool false, .bool false, .bool false, .bool false, .bool false, .bool false, .bool false, .bool false, .bool false, .bool false, .bool false, .bool false]⟩),
  (86, ⟨256, 256, .array 256 4, [.bool false, .bool false, .bool false, .bool false, .bool false, .bool false, .bool false, .bool false, .bool false, .bool false, .bool false, .bool false, .bool false, .bool false, .bool false, .bool false, .bool false, .bool false, .bool false, .bool false, .bool false, .bool false, .bool false, .bool false, .bool false, .bool false, .bool false, .bool false, .bool false, .bool false, .bool false, .bool false, .bool false, .bool false, .bool false, .bool false, .bool false, .bool false, .bool false, .bool false, .bool false, .bool false, .bool false, .bool false, .bool false, .bool false, .bool false, .bool false, .bool false, .bool false, .bool false, .bool false, .bool false, .bool false, .bool false, .bool false, .bool false, .bool false, .bool false, .bool false, .bool false, .bool false, .bool false, .bool false, .bool false, .bool false, .bool false, .bool false, .bool false, .bool false, .bool false, .bool false, .bool false, .bool false, .bool false, .bool false, .bool false, .bool false, .bool false, .bool false, .bool false, .bool false, .bool false, .bool false, .bool false, .bool false, .bool false, .bool false, .bool false, .bool false, .bool false, .bool false, .bool false, .bool false, .bool false, .bool false, .bool false, .bool false, .bool false, .bool false, .bool false, .bool false, .bool false, .bool false, .bool false, .bool false, .bool false, .bool false, .bool false, .bool false, .bool false, .bool false, .bool false, .bool false, .bool false, .bool false, .bool false, .bool false, .bool false, .bool false, .bool false, .bool false, .bool false, .bool false, .bool false, .bool false, .bool false, .bool false, .bool false, .bool false, .bool false, .bool false, .bool false, .bool false, .bool false, .bool false, .bool false, .bool false, .bool false, .bool false, .bool false, .bool false, .bool false, .bool false, .bool false, .bool false, .bool false, .bool false, .bool false, .bool false, .bool false, .bool false, .bool false, .bool false, .bool false, .bool false, .bool false, .bool false, .bool false, .bool false, .bool false, .bool false, .bool false, .bool false, .bool false, .bool false, .bool false, .bool false, .bool false, .bool false, .bool false, .bool false, .bool false, .bool false, .bool false, .bool false, .bool false, .bool false, .bool false, .bool false, .bool false, .bool false, .bool false, .bool false, .bool false, .bool false, .bool false, .bool false, .bool false, .bool false, .bool false, .bool false, .bool false, .bool false, .bool false, .bool false, .bool false, .bool false, .bool false, .bool false, .bool false, .bool false, .bool false, .bool false, .bool false, .bool false, .bool false, .bool false, .bool false, .bool false, .bool false, .bool false, .bool false, .bool false, .bool false, .bool false, .bool false, .bool false, .bool false, .bool false, .bool false, .bool false, .bool false, .bool false, .bool false, .bool false, .bool false, .bool false, .bool false, .bool false, .bool false, .bool false, .bool false, .bool false, .bool false, .bool false, .bool false, .bool false, .bool false, .bool false, .bool false, .bool false, .bool false, .bool false, .bool false, .bool false, .bool false, .bool false, .bool false, .bool false, .bool false, .bool false, .bool false, .bool false, .bool false, .bool false]⟩),
  (88, ⟨1, 8, .other, [.nilFunc]⟩),
  (89, ⟨1, 8, .other, [.nilFunc]⟩),
  (91, ⟨1, 8, .other, [.nilFunc]⟩),
  (92, ⟨1, 8, .other, [.nilFunc]⟩),
  (93, ⟨1, 4, .int .u32, [.int .u32 0]⟩),
  (95, ⟨1, 8, .other, [.nilFunc]⟩),
  (96, ⟨1, 8, .other, [.nilFunc]⟩),
  (97, ⟨1, 8, .other, [.nilFunc]⟩),
  (98, ⟨1, 8, .ptr 86, [.nilptr]⟩),
  (99, ⟨256, 256, .array 256 5, [.int .u8 0, .int .u8 0, .int .u8 0, .int .u8 0, .int .u8 0, .int .u8 0, .int .u8 0, .int .u8 0, .int .u8 0, .int .u8 0, .int .u8 0, .int .u8 0, .int .u8 0, .int .u8 0, .int .u8 0, .int .u8 0, .int .u8 0, .int .u8 0, .int .u8 0, .int .u8 0, .int .u8 0, .int .u8 0, .int .u8 0, .int .u8 0, .int .u8 0, .int .u8 0, .int .u8 0, .int .u8 0, .int .u8 0, .int .u8 0, .int .u8 0, .int .u8 0, .int .u8 0, .int .u8 0, .int .u8 0, .int .u8 0, .int .u8 0, .int .u8 0, .int .u8 0, .int .u8 0, .int .u8 0, .int .u8 0, .int .u8 0, .int .u8 0, .int .u8 0, .int .u8 0, .int .u8 0, .int .u8 0, .int .u8 0, .int .u8 0, .int .u8 0, .int .u8 0, .int .u8 0, .int .u8 0, .int .u8 0, .int .u8 0, .int .u8 0, .int .u8 0, .int .u8 0, .int .u8 0, .int .u8 0, .int .u8 0, .int .u8 0, .int .u8 0, .int .u8 0, .int .u8 0, .int .u8 0, .int .u8 0, .int .u8 0, .int .u8 0, .int .u8 0, .int .u8 0, .int .u8 0, .int .u8 0, .int .u8 0, .int .u8 0, .int .u8 0, .int .u8 0, .int .u8 0, .int .u8 0, .int .u8 0, .int .u8 0, .int .u8 0, .int .u8 0, .int .u8 0, .int .u8 0, .int .u8 0, .int .u8 0, .int .u8 0, .int .u8 0, .int .u8 0, .int .u8 0, .int .u8 0, .int .u8 0, .int .u8 0, .int .u8 0, .int .u8 0, .int .u8 0, .int .u8 0, .int .u8 0, .int .u8 0, .int .u8 0, .int .u8 0, .int .u8 0, .int .u8 0, .int .u8 0, .int .u8 0, .int .u8 0, .int .u8 0, .int .u8 0, .int .u8 0, .int .u8 0, .int .u8 0, .int .u8 0, .int .u8 0, .int .u8 0, .int .u8 0, .int .u8 0, .int .u8 0, .int .u8 0, .int .u8 0, .int .u8 0, .int .u8 0, .int .u8 0, .int .u8 0, .int .u8 0, .int .u8 0, .int .u8 0, .int .u8 0, .int .u8 0, .int .u8 0, .int .u8 0, .int .u8 0, .int .u8 0, .int .u8 0, .int .u8 0, .int .u8 0, .int .u8 0, .int .u8 0, .int .u8 0, .int .u8 0, .int .u8 0, .int .u8 0, .int .u8 0, .int .u8 0, .int .u8 0, .int .u8 0, .int .u8 0, .int .u8 0, .int .u8 0, .int .u8 0, .int .u8 0, .int .u8 0, .int .u8 0, .int .u8 0, .int .u8 0, .int .u8 0, .int .u8 0, .int .u8 0, .int .u8 0, .int .u8 0, .int .u8 0, .int .u8 0, .int .u8 0, .int .u8 0, .int .u8 0, .int .u8 0, .int .u8 0, .int .u8 0, .int .u8 0, .int .u8 0, .int .u8 0, .int .u8 0, .int .u8 0, .int .u8 0, .int .u8 0, .int .u8 0, .int .u8 0, .int .u8 0, .int .u8 0, .int .u8 0, .int .u8 0, .int .u8 0, .int .u8 0, .int .u8 0, .int .u8 0, .int .u8 0, .int .u8 0, .int .u8 0, .int .u8 0, .int .u8 0, .int .u8 0, .int .u8 0, .int .u8 0, .int .u8 0, .int .u8 0, .int .u8 0, .int .u8 0, .int .u8 0, .int .u8 0, .int .u8 0, .int .u8 0, .int .u8 0, .int .u8 0, .int .u8 0, .int .u8 0, .int .u8 0, .int .u8 0, .int .u8 0, .int .u8 0, .int .u8 0, .int .u8 0, .int .u8 0, .int .u8 0, .int .u8 0, .int .u8 0, .int .u8 0, .int .u8 0, .int .u8 0, .int .u8 0, .int .u8 0, .int .u8 0, .int .u8 0, .int .u8 0, .int .u8 0, .int .u8 0, .int .u8 0, .int .u8 0, .int .u8 0, .int .u8 0, .int .u8 0, .int .u8 0, .int .u8 0, .int .u8 0, .int .u8 0, .int .u8 0, .int .u8 0, .int .u8 0, .int .u8 0, .int .u8 0, .int .u8 0, .int .u8 0, .int .u8 0, .int .u8 0, .int .u8 0, .int .u8 0, .int .u8 0, .int .u8 0, .int .u8 0, .int .u8 0, .int .u8 0, .int .u8 0, .int .u8 0, .int .u8 0, .int .u8 0, .int .u8 0]⟩),
  (100, ⟨2, 2, .struct [(0, 5), (1, 5)], [.int .u8 0, .int .u8 0]⟩),
  (101, ⟨2, 2, .struct [(0, 5), (1, 5)], [.int .u8 0, .int .u8 0]⟩),
  (102, ⟨32, 32, .array 16 101, [.int .u8 0, .int .u8 0, .int .u8 0, .int .u8 0, .int .u8 0, .int .u8 0, .int .u8 0, .int .u8 0, .int .u8 0, .int .u8 0, .int .u8 0, .int .u8 0, .int .u8 0, .int .u8 0, .int .u8 0, .int .u8 0, .int .u8 0, .int .u8 0, .int .u8 0, .int .u8 0, .int .u8 0, .int .u8 0, .int .u8 0, .int .u8 0, .int .u8 0, .int .u8 0, .int .u8 0, .int .u8 0, .int .u8 0, .int .u8 0, .int .u8 0, .int .u8 0]⟩),
  (103, ⟨4, 40, .struct [(0, 17), (1, 17), (2, 17), (3, 9)], [.nilptr, .nilptr, .nilptr, .str []]⟩),
  (104, ⟨4, 40, .struct [(0, 17), (1, 17), (2, 17), (3, 9)], [.nilptr, .nilptr, .nilptr, .str []]⟩),
  (105, ⟨0, 0, .array 0 16, []⟩),
  (106, ⟨0, 0, .struct [(0, 105)], []⟩),
  (107, ⟨0, 0, .struct [(0, 105)], []⟩),
  (108, ⟨1, 8, .other, [.nilFunc]⟩),
  (109, ⟨1, 1, .int .u8, [.int .u8 0]⟩),
  (110, ⟨1, 1, .int .u8, [.int .u8 0]⟩),
  (111, ⟨1, 8, .other, [.nilFunc]⟩),
  (112, ⟨1, 4, .int .i32, [.int .i32 0]⟩),
  (113, ⟨1, 4, .int .i32, [.int .i32 0]⟩),
  (114, ⟨11, 48, .struct [(0, 12), (1, 12), (2, 93), (3, 109), (4, 5), (5, 5), (6, 110), (7, 111), (8, 81), (9, 112), (10, 113)], [.int .u64 0, .int .u64 0, .int .u32 0, .int .u8 0, .int .u8 0, .int .u8 0, .int .u8 0, .nilFunc, .nilptr, .int .i32 0, .int .i32 0]⟩),
  (115, ⟨11, 48, .struct [(0, 12), (1, 12), (2, 93), (3, 109), (4, 5), (5, 5), (6, 110), (7, 111), (8, 81), (9, 112), (10, 113)], [.int .u64 0, .int .u64 0, .int .u32 0, .int .u8 0, .int .u8 0, .int .u8 0, .int .u8 0, .nilFunc, .nilptr, .int .i32 0, .int .i32 0]⟩)]
def eqs : List Go.TypeId := [23, 53]
theorem tabOK : Go.Ab.TabOK Tryd.prog tab := Go.Ab.tabOK_of (by kernel_rfl)
end Go.Proofs.YteimhnedflbkmaaDoor

/- One rule for all steps that need no help. -/
set_option linter.unusedVariables false
set_option linter.unusedSimpArgs false
namespace Go.Ab
open Go.RowKit

def dput (dst : Option Tmp) (x : AV) (t : List (Nat × AV)) : List (Nat × AV) := match dst with | some d => (d, x) :: t | none => t

def stepA (τ : Tab) (es : List TypeId) (ops : Array Oper) (cls : Nat → Cls) (ds : List ADef) (i : Nat) (t : List (Nat × AV)) (M : Mem) : Option (List (Nat × AV) × Mem) :=
  match ops[i]? with
  | none => none
  | some o =>
    match wantedA ops ⟨t, ds⟩ o with
    | none => none
    | some false => some (match o.dst with | some d => (d, .tup []) :: t | none => t, M)
    | some true =>
      match forceP (stepP3 τ es (AF.ev ⟨t, ds⟩) o.op) with
      | some x => (match o.dst with | some d => some ((d, x) :: t, M) | none => some (t, M))
      | none =>
        match (match notP (cls i) with | true => forceP (stepR2 τ (AF.ev ⟨t, ds⟩) M o.op) | false => none) with
        | some x => (match o.dst with | some d => some ((d, x) :: t, M) | none => some (t, M))
        | none =>
          match (match isE (cls i) with | true => forceE (stepE τ (AF.ev ⟨t, ds⟩) M o.op) | false => none) with
          | some (x, N) => (match o.dst with | some d => some ((d, x) :: t, N) | none => some (t, N))
          | none => none

theorem DW_A {P : Program} {τ : Tab} {es : List TypeId} (hT : TabOK P τ ∧ EqTab P es) {ops : Array Oper} {cls : Nat → Cls} {Q : AX → AF → Mem → Prop} {ds : List ADef} {l : List Nat} {i : Nat} {t t' : List (Nat × AV)} {M M' : Mem}
    (hs : stepA τ es ops cls ds i t M = some (t', M')) (h : DW P ops cls Q ds l t' M') : DW P ops cls Q ds (i :: l) t M := by
  have hput : ∀ (o : Oper) (x : AV), (AF.put ⟨t, ds⟩ o.dst x).t = (match o.dst with | some d => (d, x) :: t | none => t) := by
    intro o x
    cases o.dst <;> rfl
  unfold stepA at hs
  split at hs
  case h_1 => cases hs
  rename_i o hi
  split at hs
  case h_1 => cases hs
  · rename_i hw
    simp only [Option.some.injEq, Prod.mk.injEq] at hs
    obtain ⟨rfl, rfl⟩ := hs
    refine ⟨?_⟩
    unfold DWr
    simp only [hi, hw]
    rw [hput]
    exact h.run
  · rename_i hw
    split at hs
    · rename_i x hx
      have hk : DW P ops cls Q ds l (AF.put ⟨t, ds⟩ o.dst x).t M := by
        rw [hput]
        cases hd : o.dst <;> rw [hd] at hs <;> cases hs <;> exact h
      exact DW_run hi hw (SC.of_P (stepP3_sound hT.1 hT.2 (forceP_spec hx)) hk)
    · split at hs
      · rename_i x hx
        have hk : DW P ops cls Q ds l (AF.put ⟨t, ds⟩ o.dst x).t M := by
          rw [hput]
          cases hd : o.dst <;> rw [hd] at hs <;> cases hs <;> exact h
        split at hx
        · rename_i hc
          exact DW_run hi hw (SC.of_R hc (stepR2_sound hT.1 (forceP_spec hx)) hk)
        · cases hx
      · split at hs
        · rename_i x N hx
          have hk : DW P ops cls Q ds l (AF.put ⟨t, ds⟩ o.dst x).t N := by
            rw [hput]
            cases hd : o.dst <;> rw [hd] at hs <;> cases hs <;> exact h
          split at hx
          · rename_i hc
            exact DW_run hi hw (SC.of_E hc (stepE_sound hT.1 (forceE_spec hx)) hk)
          · cases hx
        · cases hs

end Go.Ab

/- Bytes to strings, strings to bytes. -/
set_option linter.unusedVariables false
set_option linter.unusedSimpArgs false
namespace Go.Ab
open Go.RowKit

theorem foldl_bytes : ∀ (l : List UInt8) (acc : ByteArray), (l.map fun c => (c.toNat : Int)).foldl (fun r n => r.push (UInt8.ofNat n.toNat)) acc = ⟨(acc.data.toList ++ l).toArray⟩
  | [], acc => by simp
  | c :: l, acc => by
    rw [List.map_cons, List.foldl_cons, foldl_bytes l]
    simp [ByteArray.push]

theorem opP_b2s {P : Program} {τ : Tab} (hτ : TabOK P τ) {s d e : TypeId} {si di ei : TI} (hs : lookup τ s = some si) (hks : si.k = .slice e) (he : lookup τ e = some ei) (hke : ei.k = .int .u8) (hd : lookup τ d = some di) (hkd : di.k = .str)
    {x : Operand} {ty : TypeId} {ρ : Operand → AV} {l : List UInt8} {tag : Tag} (hx : ρ x = .sl 1 (l.map byteAV) tag) : OpP P (.convert s d x) ty ρ (.str l) := by
  refine opP_of_same ?_
  intro μ F w ρc o ho ht hr
  have h1 := hr x (by simp [Op.operands])
  rw [hx] at h1
  obtain ⟨A, cap, ad, vals, hv, hsz, hcap, hA, hone, hcell, hrep, _⟩ := h1.sl_inv
  obtain ⟨fs, ds, zs, HS⟩ := TI.spec hτ hs
  obtain ⟨fd, dd, zd, HD⟩ := TI.spec hτ hd
  obtain ⟨fe, de, ze, HE⟩ := TI.spec hτ he
  have f1 := HS.fits
  have f2 := HD.fits
  have f3 := HE.fits
  rw [hks] at f1
  rw [hkd] at f2
  rw [hke] at f3
  cases ds <;> simp [TK.fits] at f1
  cases dd <;> simp [TK.fits] at f2
  cases de <;> simp [TK.fits] at f3
  subst f1
  subst f3
  have hu1 := HS.und
  have hu2 := HD.und
  have hu3 := HE.und
  have hlen : (l.map byteAV).length = l.length := by simp
  rw [hlen] at hv hA
  refine ⟨.string ⟨l.toArray⟩, ?_, .str l⟩
  have hconv := run_convert_bytes_string w s d e A l.length cap hu1 hu3 hu2
  have hb2s : (Conv.bytesToString (.slice A l.length cap)).run P w = .ok (.string ⟨l.toArray⟩) w := by
    by_cases h0 : l = []
    · subst h0
      cases A with
      | none => simp [Conv.bytesToString]; rfl
      | some a =>
        have := run_bytesToString (P := P) w a 0 cap [] (by simp [loadCells, loadCellsFrom])
        exact this
    · have hpos : 0 < l.length := List.length_pos_iff.2 h0
      obtain ⟨rfl, hsp⟩ := hA hpos
      obtain ⟨ab, ao, ags⟩ := ad
      simp only at hsp
      subst hsp
      have hl := run_loadCells (P := P) w ⟨ab, ao, none⟩ l.length (fun j => .int .u8 ((l.getD j 0).toNat)) (fun j hj => by
        have e1 : (l.map byteAV)[j]? = some (byteAV (l.getD j 0)) := by simp [List.getD, hj]
        have hc := (hcell j _ 0 _ e1 rfl).1
        have hr2 := hrep j _ 0 _ e1 rfl
        rw [Addr.add_lit]
        simp only [Nat.mul_one, Nat.add_zero] at hc hr2
        rw [hc]
        generalize vals j = u at hr2
        cases hr2
        rfl)
      have hl2 : (loadCells ⟨ab, ao, none⟩ l.length).run P w = .ok ((l.map fun c => (c.toNat : Int)).map (Value.int .u8)).toArray w := by
        rw [hl]
        congr 2
        apply List.ext_getElem?
        intro i
        by_cases hi : i < l.length
        · simp [hi, List.getD]
        · simp [hi, List.getElem?_eq_none (Nat.le_of_not_lt hi)]
      have := run_bytesToString (P := P) w ⟨ab, ao, none⟩ l.length cap _ hl2
      rw [foldl_bytes] at this
      simpa using this
  rw [hb2s] at hconv
  simp [execOp, ho, hv, hconv]

/-- A new row of bytes, its owner's. -/
theorem opE_s2b {P : Program} {τ : Tab} (hτ : TabOK P τ) {s d e : TypeId} {si di ei : TI} (hs : lookup τ s = some si) (hd : lookup τ d = some di) (hkd : di.k = .slice e) (he : lookup τ e = some ei) (hke : ei.k = .int .u8)
    {x : Operand} {ty : TypeId} {ρ : Operand → AV} {M : Mem} {l : List UInt8} (hx : ρ x = .str l) : OpE P (.convert s d x) ty ρ M (.sl 1 (l.map byteAV) (.tok M.next 0)) (M.push (.spare 0)) := by
  intro μ F w ρc o hg ho ht hr
  have h1 := hr x (by simp [Op.operands])
  rw [hx] at h1
  generalize hvx : ρc x = vx at h1
  cases h1
  obtain ⟨fs, ds, zs, HS⟩ := TI.spec hτ hs
  obtain ⟨fd, dd, zd, HD⟩ := TI.spec hτ hd
  obtain ⟨fe, de, ze, HE⟩ := TI.spec hτ he
  have f2 := HD.fits
  have f3 := HE.fits
  rw [hkd] at f2
  rw [hke] at f3
  cases dd <;> simp [TK.fits] at f2
  cases de <;> simp [TK.fits] at f3
  subst f2
  subst f3
  have hconv := Lib.run_convert_string_bytes (P := P) w s d e ⟨l.toArray⟩ HS.und HD.und HE.und
  generalize hw' : Lib.bytesWorld w e ⟨l.toArray⟩ = w' at hconv
  have hnew := Lib.bytesWorld_at_new w e ⟨l.toArray⟩
  rw [hw'] at hnew
  have hsize : w'.heap.size = w.heap.size + 1 := by rw [← hw']; exact Lib.bytesWorld_size _ _ _
  have hold : ∀ k, k < w.heap.size → w'.heap[k]? = w.heap[k]? := fun k hk => by rw [← hw']; exact Lib.bytesWorld_at_old _ _ _ _ hk
  have hcs : (Lib.bytesCells w e ⟨l.toArray⟩).size = l.length + (grownCap w l.length 0 e - l.length) := by simp [Lib.bytesCells, ByteArray.size]
  have hos : w'.os = w.os ∧ w'.tape = w.tape ∧ w'.output = w.output := by rw [← hw']; exact ⟨rfl, rfl, rfl⟩
  obtain ⟨hev, hG⟩ := gam_room hg (w' := w') (p := some (w.heap.size, l.length)) hos.1 hos.2.1 hos.2.2 (by omega) (id := M.next) (g := 0) (.inl ⟨rfl, hold⟩) (by
    intro b n h
    cases h
    refine ⟨⟨_, _, _, hnew, by omega, ?_⟩, .inl (Nat.le_refl _)⟩
    intro q hq
    simp only
    omega)
  have hsz : (⟨l.toArray⟩ : ByteArray).size = l.length := by simp [ByteArray.size]
  rw [hsz] at hconv
  refine ⟨_, .value (.slice (some ⟨w.heap.size, 0, none⟩) l.length (grownCap w l.length 0 e)), .slice (some ⟨w.heap.size, 0, none⟩) l.length (grownCap w l.length 0 e), w', ?_, .inl rfl, hev, hG _ (by simp [Mem.push]) (fun i => Mem.get_push M _ i), ?_⟩
  · simp [execOp, ho, hvx, hconv]
  · have hle : l.length ≤ grownCap w l.length 0 e := grownCap_ge w l.length 0 e
    have hlm : (l.map byteAV).length = l.length := by simp
    have hgoal := rep_sl (μ := μ.put M.next (.spare (some (w.heap.size, l.length)) 0)) (F := F) (w := w') (xs := l.map byteAV) (t := .tok M.next 0) (A := some ⟨w.heap.size, 0, none⟩) (cap := grownCap w l.length 0 e) (sz := 1) (b := w.heap.size) (o := 0)
      (vals := fun p => .int .u8 ((l.getD p 0).toNat)) (by
        intro y hy
        obtain ⟨c, _, rfl⟩ := List.mem_map.1 hy
        rfl) (by rw [hlm]; exact hle) (fun _ => rfl) (by
        intro p c hc
        rw [flat_bytes] at hc
        have hp : p < l.length := by
          have := (List.getElem?_eq_some_iff.1 hc).1
          simpa using this
        have hcell : w'.cell? ⟨w.heap.size, p, none⟩ = some (.int .u8 ((l.getD p 0).toNat)) := by
          have := Lib.bytesWorld_cell w e ⟨l.toArray⟩ p (by rw [hsz]; exact hp)
          rw [hw'] at this
          simpa using this
        refine ⟨rfl, by rw [Nat.zero_add]; exact hcell, ⟨?_, ?_⟩, ?_⟩
        · intro hF
          have := hg.fit.frm _ _ hF
          omega
        · rintro ⟨i, h | ⟨q, g, h, hq⟩⟩
          · unfold Mu.put at h
            split at h
            · cases h
            · have := hg.fit.own w.heap.size 0 ⟨i, .inl h⟩
              omega
          · unfold Mu.put at h
            split at h
            · cases h
              omega
            · have := hg.fit.own w.heap.size q ⟨i, .inr ⟨q, g, h, Nat.le_refl _⟩⟩
              omega
        · have : c = byteAV (l.getD p 0) := by
            simp only [List.getElem?_map, List.getElem?_eq_getElem hp, Option.map_some, Option.some.injEq] at hc
            rw [← hc]
            simp [List.getD, hp]
          subst this
          exact .int _ _) (.inr ⟨some (w.heap.size, l.length), 0, by simp [Mu.put], Nat.le_refl _, fun _ => ⟨rfl, by rw [hlm, Nat.mul_one], _, _, _, hnew, by rw [hcs, Nat.mul_one]; omega⟩⟩)
    rw [hlm] at hgoal
    exact hgoal

section
variable {P : Program} {τ : Tab} {ops : Array Oper} {cls : Nat → Cls} {Q : AX → AF → Mem → Prop} {ds : List ADef} {l : List Nat} {i : Nat} {o : Oper} {t : List (Nat × AV)} {M : Mem}

/-- string(b). -/
theorem DW_b2s (hτ : TabOK P τ) {d : Nat} (hi : ops[i]? = some o) (hw : wantedA ops ⟨t, ds⟩ o = some true) (hd : o.dst = some d) {s e dt : TypeId} {X : Operand} (ho : o.op = .convert s dt X) {si di ei : TI} (hs : lookup τ s = some si) (hks : si.k = .slice e)
    (he : lookup τ e = some ei) (hke : ei.k = .int .u8) (hdt : lookup τ dt = some di) (hkd : di.k = .str) {bs : List UInt8} {xs : List AV} {tag : Tag} (hX : AF.ev ⟨t, ds⟩ X = .sl 1 xs tag) (hbs : xs = bs.map byteAV)
    (h : DW P ops cls Q ds l ((d, .str bs) :: t) M) : DW P ops cls Q ds (i :: l) t M :=
  DW_ofP hi hw hd (by rw [ho]; exact opP_b2s hτ hs hks he hke hdt hkd (by rw [hX, hbs])) h

/-- []byte(s). -/
theorem DW_s2b (hτ : TabOK P τ) {d : Nat} (hi : ops[i]? = some o) (hw : wantedA ops ⟨t, ds⟩ o = some true) (hd : o.dst = some d) {s e dt : TypeId} {X : Operand} (ho : o.op = .convert s dt X) {si di ei : TI} (hs : lookup τ s = some si)
    (hdt : lookup τ dt = some di) (hkd : di.k = .slice e) (he : lookup τ e = some ei) (hke : ei.k = .int .u8) {bs : List UInt8} (hX : AF.ev ⟨t, ds⟩ X = .str bs) (hc : isE (cls i) = true)
    (h : DW P ops cls Q ds l ((d, .sl 1 (bs.map byteAV) (.tok M.next 0)) :: t) (M.push (.spare 0))) : DW P ops cls Q ds (i :: l) t M :=
  DW_ofE hi hw hd hc (by rw [ho]; exact opE_s2b hτ hs hdt hkd he hke hX) h
end

end Go.Ab

/- The types and orders that the walks lean on. No further condition. -/
set_option linter.unusedVariables false
set_option linter.unusedSimpArgs false
namespace Go.Proofs.YteimhnedflbkmaaDoor
open Go.Ab

theorem eqOK : EqTab Tryd.prog eqs := eqTab_of (by kernel_rfl)
theorem tabs : TabOK Tryd.prog tab ∧ EqTab Tryd.prog eqs := ⟨tabOK, eqOK⟩
theorem mixed : Tryd.prog.follows .mixedOrders = true := by kernel_rfl

abbrev Bytes := List UInt8
def intA (n : Int) : AV := .int .i64 n
end Go.Proofs.YteimhnedflbkmaaDoor

/- Functions of Go's library that tell what their texts say: strings.Split, Join, LastIndex, ContainsAny. No further condition. -/
set_option linter.unusedVariables false
set_option linter.unusedSimpArgs false
namespace Go.Proofs.YteimhnedflbkmaaDoor
open Go.Ab

theorem split47_ok (s : Bytes) (hs : s.length < 4294967281) : APure Tryd.prog 46 [.str s, .str [47]] (.sl 1 ((splitOn 47 s).map .str) .none) :=
  split_ok lays146 (by kernel_rfl) ⟨_, _, Tryd.func46, rfl, by decide⟩ s 47 hs
theorem join47_ok (l : List Bytes) (t : Tag) (hN : l.length ≤ 140737488355328) (hlen : (glueL [47] l).length ≤ 140737488355328) : APure Tryd.prog 49 [.sl 1 (l.map .str) t, .str [47]] (.str (glueL [47] l)) :=
  join_ok lays156 laysX ⟨_, _, Tryd.func49, rfl, by decide⟩ l t [47] hN hlen
theorem last47_ok (s : Bytes) (hs : s.length < 4611686018427387904) : APure Tryd.prog 65 [.str s, .str [47]] (.int .i64 (lastAt 47 s)) :=
  lastIndex_ok lays148 ⟨_, _, Tryd.func65, rfl, by decide⟩ s 47 hs
theorem any470_ok (s : Bytes) (hs : s.length < 4294967281) : APure Tryd.prog 61 [.str s, .str [47, 0]] (.bool (s.any fun b => b == 47 || b == 0)) :=
  containsAny_ok lays150 (by kernel_rfl) ⟨_, _, Tryd.func61, rfl, by decide⟩ s hs
end Go.Proofs.YteimhnedflbkmaaDoor

/- Which texts are names, and which are paths. No further condition. -/
set_option linter.unusedVariables false
set_option linter.unusedSimpArgs false
namespace Go.Proofs.YteimhnedflbkmaaDoor
open Go.Ab

def isNameB (s : Bytes) : Bool := !(s == []) && decide (s.length ≤ 30) && !(s == [46]) && !(s == [46, 46]) && !(s.any fun b => b == 47 || b == 0)

theorem isName_ok (s : Bytes) (hs : s.length < 4294967281) : APure Tryd.prog 48 [.str s] (.bool (isNameB s)) := by
  intro M
  refine acalls_of tabOK Tryd.func48 rfl (by decide) (by simp [Tryd.f48]) ?_
  have k := any470_ok s hs
  unfold isNameB
  cases h1 : s == []
  · have n1 : (!(s == [])) = true := by rw [h1]; rfl
    cases h2 : decide (s.length ≤ 30)
    · have d2 : decide ((s.length : Int) ≤ 30) = false := by
        simp at h2 ⊢
        omega
      repeat' (first | (show DW _ _ _ _ _ _ _ _; first | refine DW_V tabs rfl rfl rfl rfl (congrArg AV.bool n1) ?_ | refine DW_V tabs rfl rfl rfl rfl (congrArg AV.bool d2) ?_ | refine DW_A tabs rfl ?_ | refine DW_nil ?_ | refine DW_lits tabOK rfl rfl rfl rfl rfl rfl rfl rfl rfl rfl rfl rfl rfl ?_ | refine DW_append_own tabOK rfl rfl rfl rfl rfl rfl rfl rfl rfl rfl rfl rfl rfl rfl rfl (by simp; omega) (by simp; omega) ?_) | (show W _ _ _ _ _ _; first | refine W_seq ?_ | refine W_text rfl (fun _ _ _ h => h) ?_ | refine W_block ?_ | refine W_skip ?_ | refine W_exit ?_ | refine W_ret ?_ | refine W_true rfl ?_ | refine W_false rfl ?_ | refine W_cond rfl (fun _ => ?_) (fun _ => ?_)))
      exact ⟨rfl, _, rfl, rfl, rfl⟩
    · have d2 : decide ((s.length : Int) ≤ 30) = true := by
        simp at h2 ⊢
        omega
      cases h3 : s == [46]
      · have n3 : (!(s == [46])) = true := by rw [h3]; rfl
        cases h4 : s == [46, 46]
        · have n4 : (!(s == [46, 46])) = true := by rw [h4]; rfl
          repeat' (first | (show DW _ _ _ _ _ _ _ _; first | refine DW_V tabs rfl rfl rfl rfl (congrArg AV.bool n1) ?_ | refine DW_V tabs rfl rfl rfl rfl (congrArg AV.bool d2) ?_ | refine DW_V tabs rfl rfl rfl rfl (congrArg AV.bool n3) ?_ | refine DW_V tabs rfl rfl rfl rfl (congrArg AV.bool n4) ?_ | refine DW_A tabs rfl ?_ | refine DW_nil ?_ | refine DW_lits tabOK rfl rfl rfl rfl rfl rfl rfl rfl rfl rfl rfl rfl rfl ?_ | refine DW_append_own tabOK rfl rfl rfl rfl rfl rfl rfl rfl rfl rfl rfl rfl rfl rfl rfl (by simp; omega) (by simp; omega) ?_) | (show W _ _ _ _ _ _; first | refine W_seq ?_ | refine W_text rfl (fun _ _ _ h => h) ?_ | refine W_block ?_ | refine W_skip ?_ | refine W_exit ?_ | refine W_ret ?_ | refine W_true rfl ?_ | refine W_false rfl ?_ | refine W_cond rfl (fun _ => ?_) (fun _ => ?_)))
          refine DW_pure rfl rfl rfl rfl rfl k ?_
          repeat' (first | (show DW _ _ _ _ _ _ _ _; first | refine DW_A tabs rfl ?_ | refine DW_nil ?_ | refine DW_lits tabOK rfl rfl rfl rfl rfl rfl rfl rfl rfl rfl rfl rfl rfl ?_ | refine DW_append_own tabOK rfl rfl rfl rfl rfl rfl rfl rfl rfl rfl rfl rfl rfl rfl rfl (by simp; omega) (by simp; omega) ?_) | (show W _ _ _ _ _ _; first | refine W_seq ?_ | refine W_text rfl (fun _ _ _ h => h) ?_ | refine W_block ?_ | refine W_skip ?_ | refine W_exit ?_ | refine W_ret ?_ | refine W_true rfl ?_ | refine W_false rfl ?_ | refine W_cond rfl (fun _ => ?_) (fun _ => ?_)))
          exact ⟨rfl, _, rfl, rfl, rfl⟩
        · have n4 : (!(s == [46, 46])) = false := by rw [h4]; rfl
          repeat' (first | (show DW _ _ _ _ _ _ _ _; first | refine DW_V tabs rfl rfl rfl rfl (congrArg AV.bool n1) ?_ | refine DW_V tabs rfl rfl rfl rfl (congrArg AV.bool d2) ?_ | refine DW_V tabs rfl rfl rfl rfl (congrArg AV.bool n3) ?_ | refine DW_V tabs rfl rfl rfl rfl (congrArg AV.bool n4) ?_ | refine DW_A tabs rfl ?_ | refine DW_nil ?_ | refine DW_lits tabOK rfl rfl rfl rfl rfl rfl rfl rfl rfl rfl rfl rfl rfl ?_ | refine DW_append_own tabOK rfl rfl rfl rfl rfl rfl rfl rfl rfl rfl rfl rfl rfl rfl rfl (by simp; omega) (by simp; omega) ?_) | (show W _ _ _ _ _ _; first | refine W_seq ?_ | refine W_text rfl (fun _ _ _ h => h) ?_ | refine W_block ?_ | refine W_skip ?_ | refine W_exit ?_ | refine W_ret ?_ | refine W_true rfl ?_ | refine W_false rfl ?_ | refine W_cond rfl (fun _ => ?_) (fun _ => ?_)))
          exact ⟨rfl, _, rfl, rfl, rfl⟩
      · have n3 : (!(s == [46])) = false := by rw [h3]; rfl
        repeat' (first | (show DW _ _ _ _ _ _ _ _; first | refine DW_V tabs rfl rfl rfl rfl (congrArg AV.bool n1) ?_ | refine DW_V tabs rfl rfl rfl rfl (congrArg AV.bool d2) ?_ | refine DW_V tabs rfl rfl rfl rfl (congrArg AV.bool n3) ?_ | refine DW_A tabs rfl ?_ | refine DW_nil ?_ | refine DW_lits tabOK rfl rfl rfl rfl rfl rfl rfl rfl rfl rfl rfl rfl rfl ?_ | refine DW_append_own tabOK rfl rfl rfl rfl rfl rfl rfl rfl rfl rfl rfl rfl rfl rfl rfl (by simp; omega) (by simp; omega) ?_) | (show W _ _ _ _ _ _; first | refine W_seq ?_ | refine W_text rfl (fun _ _ _ h => h) ?_ | refine W_block ?_ | refine W_skip ?_ | refine W_exit ?_ | refine W_ret ?_ | refine W_true rfl ?_ | refine W_false rfl ?_ | refine W_cond rfl (fun _ => ?_) (fun _ => ?_)))
        exact ⟨rfl, _, rfl, rfl, rfl⟩
  · have n1 : (!(s == [])) = false := by rw [h1]; rfl
    repeat' (first | (show DW _ _ _ _ _ _ _ _; first | refine DW_V tabs rfl rfl rfl rfl (congrArg AV.bool n1) ?_ | refine DW_A tabs rfl ?_ | refine DW_nil ?_ | refine DW_lits tabOK rfl rfl rfl rfl rfl rfl rfl rfl rfl rfl rfl rfl rfl ?_ | refine DW_append_own tabOK rfl rfl rfl rfl rfl rfl rfl rfl rfl rfl rfl rfl rfl rfl rfl (by simp; omega) (by simp; omega) ?_) | (show W _ _ _ _ _ _; first | refine W_seq ?_ | refine W_text rfl (fun _ _ _ h => h) ?_ | refine W_block ?_ | refine W_skip ?_ | refine W_exit ?_ | refine W_ret ?_ | refine W_true rfl ?_ | refine W_false rfl ?_ | refine W_cond rfl (fun _ => ?_) (fun _ => ?_)))
    exact ⟨rfl, _, rfl, rfl, rfl⟩

def isPathB (s : Bytes) : Bool := s == [] || ((splitOn 47 s).all isNameB && decide (s.length ≤ 100))

theorem splitOn_len (c : UInt8) : ∀ s : Bytes, (splitOn c s).length ≤ s.length + 1 ∧ ∀ p, p ∈ splitOn c s → p.length ≤ s.length
  | [] => ⟨by simp [splitOn], by simp [splitOn]⟩
  | b :: l => by
    have ih := splitOn_len c l
    unfold splitOn
    split
    · refine ⟨by simp; omega, fun p hp => ?_⟩
      rcases List.mem_cons.1 hp with rfl | hp
      · simp
      · have := ih.2 p hp
        simp; omega
    · split
      · simp
      · rename_i p r hr
        rw [hr] at ih
        refine ⟨by simp at ih ⊢; omega, fun q hq => ?_⟩
        rcases List.mem_cons.1 hq with rfl | hq
        · have := ih.2 p (by simp)
          simp; omega
        · have := ih.2 q (by simp [hq])
          simp; omega

theorem isPath_ok (s : Bytes) (hs : s.length < 4294967281) : APure Tryd.prog 31 [.str s] (.bool (isPathB s)) := by
  intro M
  refine acalls_of tabOK Tryd.func31 rfl (by decide) (by simp [Tryd.f31]) ?_
  have k := split47_ok s hs
  have kl := splitOn_len 47 s
  unfold isPathB
  cases h1 : s == []
  · generalize splitOn 47 s = l at k kl
    have la : ((l.map AV.str).length : Int) = (l.length : Int) := by simp
    repeat' (first | (show DW _ _ _ _ _ _ _ _; first | refine DW_V tabs rfl rfl rfl rfl (congrArg AV.bool h1) ?_ | refine DW_A tabs rfl ?_ | refine DW_nil ?_ | refine DW_lits tabOK rfl rfl rfl rfl rfl rfl rfl rfl rfl rfl rfl rfl rfl ?_ | refine DW_append_own tabOK rfl rfl rfl rfl rfl rfl rfl rfl rfl rfl rfl rfl rfl rfl rfl (by simp; omega) (by simp; omega) ?_) | (show W _ _ _ _ _ _; first | refine W_seq ?_ | refine W_text rfl (fun _ _ _ h => h) ?_ | refine W_block ?_ | refine W_skip ?_ | refine W_exit ?_ | refine W_ret ?_ | refine W_true rfl ?_ | refine W_false rfl ?_ | refine W_cond rfl (fun _ => ?_) (fun _ => ?_)))
    refine DW_pure rfl rfl rfl rfl rfl k ?_
    repeat' (first | (show DW _ _ _ _ _ _ _ _; first | refine DW_V tabs rfl rfl rfl rfl (congrArg (AV.int _) la) ?_ | refine DW_A tabs rfl ?_ | refine DW_nil ?_ | refine DW_lits tabOK rfl rfl rfl rfl rfl rfl rfl rfl rfl rfl rfl rfl rfl ?_ | refine DW_append_own tabOK rfl rfl rfl rfl rfl rfl rfl rfl rfl rfl rfl rfl rfl rfl rfl (by simp; omega) (by simp; omega) ?_) | (show W _ _ _ _ _ _; first | refine W_seq ?_ | refine W_text rfl (fun _ _ _ h => h) ?_ | refine W_block ?_ | refine W_skip ?_ | refine W_exit ?_ | refine W_ret ?_ | refine W_true rfl ?_ | refine W_false rfl ?_ | refine W_cond rfl (fun _ => ?_) (fun _ => ?_)))
    refine W_count l.length (fun i f N => N = M ∧ (l.take i).all isNameB = true ∧ f = ⟨[(0, .str s), (8, .sl 1 (l.map AV.str) .none), (9, .int .i64 (l.length : Int)), (10, .int .i64 (i : Int))], []⟩) (Nat.zero_le _) ⟨rfl, by simp, rfl⟩ (Joint.le ?_ (Mem.le_refl _)) ?_
    · skip
      repeat (refine AF.le_cons rfl ?_)
      exact AF.le_nil rfl
    · rintro i f N hi ⟨rfl, hpre, rfl⟩
      by_cases h2 : i < l.length
      · have d1 : decide ((i : Int) < (l.length : Int)) = true := by simp; omega
        have hx : l[i]? = some l[i] := List.getElem?_eq_getElem h2
        have fi := wrap_succ (i := i) (by omega)
        have ht := take_succ hx
        generalize l[i] = e at hx ht
        have he := kl.2 e (List.mem_of_getElem? hx)
        have ke := isName_ok e (by omega)
        cases h3 : isNameB e
        · have hall : l.all isNameB = false := List.all_eq_false.2 ⟨e, List.mem_of_getElem? hx, by simp [h3]⟩
          rw [h3] at ke
          rw [hall]
          repeat' (first | (show DW _ _ _ _ _ _ _ _; first | refine DW_V tabs rfl rfl rfl rfl (congrArg AV.bool d1) ?_ | refine DW_V tabs rfl rfl rfl rfl (congrArg (AV.int _) la) ?_ | refine DW_V tabs rfl rfl rfl rfl (congrArg (AV.int _) fi) ?_ | refine DW_A tabs rfl ?_ | refine DW_nil ?_ | refine DW_lits tabOK rfl rfl rfl rfl rfl rfl rfl rfl rfl rfl rfl rfl rfl ?_ | refine DW_append_own tabOK rfl rfl rfl rfl rfl rfl rfl rfl rfl rfl rfl rfl rfl rfl rfl (by simp; omega) (by simp; omega) ?_) | (show W _ _ _ _ _ _; first | refine W_seq ?_ | refine W_text rfl (fun _ _ _ h => h) ?_ | refine W_block ?_ | refine W_skip ?_ | refine W_exit ?_ | refine W_ret ?_ | refine W_true rfl ?_ | refine W_false rfl ?_ | refine W_cond rfl (fun _ => ?_) (fun _ => ?_)))
          refine DW_index tabOK rfl rfl rfl rfl rfl rfl rfl rfl rfl rfl (Int.natCast_nonneg _) (map_get hx) ?_
          repeat' (first | (show DW _ _ _ _ _ _ _ _; first | refine DW_V tabs rfl rfl rfl rfl (congrArg AV.bool d1) ?_ | refine DW_V tabs rfl rfl rfl rfl (congrArg (AV.int _) la) ?_ | refine DW_V tabs rfl rfl rfl rfl (congrArg (AV.int _) fi) ?_ | refine DW_A tabs rfl ?_ | refine DW_nil ?_ | refine DW_lits tabOK rfl rfl rfl rfl rfl rfl rfl rfl rfl rfl rfl rfl rfl ?_ | refine DW_append_own tabOK rfl rfl rfl rfl rfl rfl rfl rfl rfl rfl rfl rfl rfl rfl rfl (by simp; omega) (by simp; omega) ?_) | (show W _ _ _ _ _ _; first | refine W_seq ?_ | refine W_text rfl (fun _ _ _ h => h) ?_ | refine W_block ?_ | refine W_skip ?_ | refine W_exit ?_ | refine W_ret ?_ | refine W_true rfl ?_ | refine W_false rfl ?_ | refine W_cond rfl (fun _ => ?_) (fun _ => ?_)))
          refine DW_pure rfl rfl rfl rfl rfl ke ?_
          repeat' (first | (show DW _ _ _ _ _ _ _ _; first | refine DW_V tabs rfl rfl rfl rfl (congrArg (AV.int _) la) ?_ | refine DW_V tabs rfl rfl rfl rfl (congrArg (AV.int _) fi) ?_ | refine DW_A tabs rfl ?_ | refine DW_nil ?_ | refine DW_lits tabOK rfl rfl rfl rfl rfl rfl rfl rfl rfl rfl rfl rfl rfl ?_ | refine DW_append_own tabOK rfl rfl rfl rfl rfl rfl rfl rfl rfl rfl rfl rfl rfl rfl rfl (by simp; omega) (by simp; omega) ?_) | (show W _ _ _ _ _ _; first | refine W_seq ?_ | refine W_text rfl (fun _ _ _ h => h) ?_ | refine W_block ?_ | refine W_skip ?_ | refine W_exit ?_ | refine W_ret ?_ | refine W_true rfl ?_ | refine W_false rfl ?_ | refine W_cond rfl (fun _ => ?_) (fun _ => ?_)))
          exact ⟨rfl, _, rfl, rfl, rfl⟩
        · rw [h3] at ke
          repeat' (first | (show DW _ _ _ _ _ _ _ _; first | refine DW_V tabs rfl rfl rfl rfl (congrArg AV.bool d1) ?_ | refine DW_V tabs rfl rfl rfl rfl (congrArg (AV.int _) la) ?_ | refine DW_V tabs rfl rfl rfl rfl (congrArg (AV.int _) fi) ?_ | refine DW_A tabs rfl ?_ | refine DW_nil ?_ | refine DW_lits tabOK rfl rfl rfl rfl rfl rfl rfl rfl rfl rfl rfl rfl rfl ?_ | refine DW_append_own tabOK rfl rfl rfl rfl rfl rfl rfl rfl rfl rfl rfl rfl rfl rfl rfl (by simp; omega) (by simp; omega) ?_) | (show W _ _ _ _ _ _; first | refine W_seq ?_ | refine W_text rfl (fun _ _ _ h => h) ?_ | refine W_block ?_ | refine W_skip ?_ | refine W_exit ?_ | refine W_ret ?_ | refine W_true rfl ?_ | refine W_false rfl ?_ | refine W_cond rfl (fun _ => ?_) (fun _ => ?_)))
          refine DW_index tabOK rfl rfl rfl rfl rfl rfl rfl rfl rfl rfl (Int.natCast_nonneg _) (map_get hx) ?_
          repeat' (first | (show DW _ _ _ _ _ _ _ _; first | refine DW_V tabs rfl rfl rfl rfl (congrArg AV.bool d1) ?_ | refine DW_V tabs rfl rfl rfl rfl (congrArg (AV.int _) la) ?_ | refine DW_V tabs rfl rfl rfl rfl (congrArg (AV.int _) fi) ?_ | refine DW_A tabs rfl ?_ | refine DW_nil ?_ | refine DW_lits tabOK rfl rfl rfl rfl rfl rfl rfl rfl rfl rfl rfl rfl rfl ?_ | refine DW_append_own tabOK rfl rfl rfl rfl rfl rfl rfl rfl rfl rfl rfl rfl rfl rfl rfl (by simp; omega) (by simp; omega) ?_) | (show W _ _ _ _ _ _; first | refine W_seq ?_ | refine W_text rfl (fun _ _ _ h => h) ?_ | refine W_block ?_ | refine W_skip ?_ | refine W_exit ?_ | refine W_ret ?_ | refine W_true rfl ?_ | refine W_false rfl ?_ | refine W_cond rfl (fun _ => ?_) (fun _ => ?_)))
          refine DW_pure rfl rfl rfl rfl rfl ke ?_
          repeat' (first | (show DW _ _ _ _ _ _ _ _; first | refine DW_V tabs rfl rfl rfl rfl (congrArg (AV.int _) la) ?_ | refine DW_V tabs rfl rfl rfl rfl (congrArg (AV.int _) fi) ?_ | refine DW_A tabs rfl ?_ | refine DW_nil ?_ | refine DW_lits tabOK rfl rfl rfl rfl rfl rfl rfl rfl rfl rfl rfl rfl rfl ?_ | refine DW_append_own tabOK rfl rfl rfl rfl rfl rfl rfl rfl rfl rfl rfl rfl rfl rfl rfl (by simp; omega) (by simp; omega) ?_) | (show W _ _ _ _ _ _; first | refine W_seq ?_ | refine W_text rfl (fun _ _ _ h => h) ?_ | refine W_block ?_ | refine W_skip ?_ | refine W_exit ?_ | refine W_ret ?_ | refine W_true rfl ?_ | refine W_false rfl ?_ | refine W_cond rfl (fun _ => ?_) (fun _ => ?_)))
          refine ⟨h2, _, _, ⟨rfl, ?_, rfl⟩, Joint.le ?_ (Mem.le_refl _)⟩
          · rw [ht, List.all_append, hpre]
            simp [h3]
          · skip
            repeat (refine AF.le_cons rfl ?_)
            exact AF.le_nil rfl
      · have d1 : decide ((i : Int) < (l.length : Int)) = false := by simp; omega
        have hl2 : l.take i = l := List.take_of_length_le (by omega)
        rw [hl2] at hpre
        rw [hpre]
        repeat' (first | (show DW _ _ _ _ _ _ _ _; first | refine DW_V tabs rfl rfl rfl rfl (congrArg AV.bool d1) ?_ | refine DW_V tabs rfl rfl rfl rfl (congrArg (AV.int _) la) ?_ | refine DW_A tabs rfl ?_ | refine DW_nil ?_ | refine DW_lits tabOK rfl rfl rfl rfl rfl rfl rfl rfl rfl rfl rfl rfl rfl ?_ | refine DW_append_own tabOK rfl rfl rfl rfl rfl rfl rfl rfl rfl rfl rfl rfl rfl rfl rfl (by simp; omega) (by simp; omega) ?_) | (show W _ _ _ _ _ _; first | refine W_seq ?_ | refine W_text rfl (fun _ _ _ h => h) ?_ | refine W_block ?_ | refine W_skip ?_ | refine W_exit ?_ | refine W_ret ?_ | refine W_true rfl ?_ | refine W_false rfl ?_ | refine W_cond rfl (fun _ => ?_) (fun _ => ?_)))
        exact ⟨rfl, _, rfl, ret_bool (by rw [Bool.true_and, Bool.false_or]; exact decide_eq_decide.2 (by omega)), rfl⟩
  · repeat' (first | (show DW _ _ _ _ _ _ _ _; first | refine DW_V tabs rfl rfl rfl rfl (congrArg AV.bool h1) ?_ | refine DW_A tabs rfl ?_ | refine DW_nil ?_ | refine DW_lits tabOK rfl rfl rfl rfl rfl rfl rfl rfl rfl rfl rfl rfl rfl ?_ | refine DW_append_own tabOK rfl rfl rfl rfl rfl rfl rfl rfl rfl rfl rfl rfl rfl rfl rfl (by simp; omega) (by simp; omega) ?_) | (show W _ _ _ _ _ _; first | refine W_seq ?_ | refine W_text rfl (fun _ _ _ h => h) ?_ | refine W_block ?_ | refine W_skip ?_ | refine W_exit ?_ | refine W_ret ?_ | refine W_true rfl ?_ | refine W_false rfl ?_ | refine W_cond rfl (fun _ => ?_) (fun _ => ?_)))
    exact ⟨rfl, _, rfl, rfl, rfl⟩
end Go.Proofs.YteimhnedflbkmaaDoor

/- strings.HasPrefix tells what its text says. No further condition. -/
set_option linter.unusedVariables false
set_option linter.unusedSimpArgs false
namespace Go.Proofs.YteimhnedflbkmaaDoor
open Go.Ab

def hasPre (s p : Bytes) : Bool := decide (p.length ≤ s.length) && (s.take p.length == p)

theorem litePrefix_ok (s p : Bytes) : APure Tryd.prog 59 [.str s, .str p] (.bool (hasPre s p)) := by
  intro M
  refine acalls_of tabOK Tryd.func59 rfl (by decide) (by simp [Tryd.f59]) ?_
  unfold hasPre
  by_cases h : p.length ≤ s.length
  · have d1 : decide ((p.length : Int) ≤ (s.length : Int)) = true := by simp; omega
    have e1 : decide (p.length ≤ s.length) = true := by simp [h]
    rw [e1]
    repeat' (first | (show DW _ _ _ _ _ _ _ _; first | refine DW_V tabs rfl rfl rfl rfl (congrArg AV.bool d1) ?_ | refine DW_A tabs rfl ?_ | refine DW_nil ?_ | refine DW_lits tabOK rfl rfl rfl rfl rfl rfl rfl rfl rfl rfl rfl rfl rfl ?_ | refine DW_append_own tabOK rfl rfl rfl rfl rfl rfl rfl rfl rfl rfl rfl rfl rfl rfl rfl (by simp; omega) (by simp; omega) ?_) | (show W _ _ _ _ _ _; first | refine W_seq ?_ | refine W_text rfl (fun _ _ _ h => h) ?_ | refine W_block ?_ | refine W_skip ?_ | refine W_exit ?_ | refine W_ret ?_ | refine W_true rfl ?_ | refine W_false rfl ?_ | refine W_cond rfl (fun _ => ?_) (fun _ => ?_)))
    refine DW_substr tabOK rfl rfl rfl rfl rfl rfl rfl rfl rfl (Int.le_refl 0) (Int.natCast_nonneg _) (by omega) ?_
    repeat' (first | (show DW _ _ _ _ _ _ _ _; first | refine DW_A tabs rfl ?_ | refine DW_nil ?_ | refine DW_lits tabOK rfl rfl rfl rfl rfl rfl rfl rfl rfl rfl rfl rfl rfl ?_ | refine DW_append_own tabOK rfl rfl rfl rfl rfl rfl rfl rfl rfl rfl rfl rfl rfl rfl rfl (by simp; omega) (by simp; omega) ?_) | (show W _ _ _ _ _ _; first | refine W_seq ?_ | refine W_text rfl (fun _ _ _ h => h) ?_ | refine W_block ?_ | refine W_skip ?_ | refine W_exit ?_ | refine W_ret ?_ | refine W_true rfl ?_ | refine W_false rfl ?_ | refine W_cond rfl (fun _ => ?_) (fun _ => ?_)))
    exact ⟨rfl, _, rfl, ret_bool (by simp), rfl⟩
  · have d1 : decide ((p.length : Int) ≤ (s.length : Int)) = false := by simp; omega
    have e1 : decide (p.length ≤ s.length) = false := by simp [h]
    rw [e1]
    repeat' (first | (show DW _ _ _ _ _ _ _ _; first | refine DW_V tabs rfl rfl rfl rfl (congrArg AV.bool d1) ?_ | refine DW_A tabs rfl ?_ | refine DW_nil ?_ | refine DW_lits tabOK rfl rfl rfl rfl rfl rfl rfl rfl rfl rfl rfl rfl rfl ?_ | refine DW_append_own tabOK rfl rfl rfl rfl rfl rfl rfl rfl rfl rfl rfl rfl rfl rfl rfl (by simp; omega) (by simp; omega) ?_) | (show W _ _ _ _ _ _; first | refine W_seq ?_ | refine W_text rfl (fun _ _ _ h => h) ?_ | refine W_block ?_ | refine W_skip ?_ | refine W_exit ?_ | refine W_ret ?_ | refine W_true rfl ?_ | refine W_false rfl ?_ | refine W_cond rfl (fun _ => ?_) (fun _ => ?_)))
    exact ⟨rfl, _, rfl, rfl, rfl⟩
theorem hasPrefix_ok (s p : Bytes) : APure Tryd.prog 44 [.str s, .str p] (.bool (hasPre s p)) := by
  intro M
  refine acalls_of tabOK Tryd.func44 rfl (by decide) (by simp [Tryd.f44]) ?_
  repeat' (first | (show DW _ _ _ _ _ _ _ _; first | refine DW_A tabs rfl ?_ | refine DW_nil ?_ | refine DW_lits tabOK rfl rfl rfl rfl rfl rfl rfl rfl rfl rfl rfl rfl rfl ?_ | refine DW_append_own tabOK rfl rfl rfl rfl rfl rfl rfl rfl rfl rfl rfl rfl rfl rfl rfl (by simp; omega) (by simp; omega) ?_) | (show W _ _ _ _ _ _; first | refine W_seq ?_ | refine W_text rfl (fun _ _ _ h => h) ?_ | refine W_block ?_ | refine W_skip ?_ | refine W_exit ?_ | refine W_ret ?_ | refine W_true rfl ?_ | refine W_false rfl ?_ | refine W_cond rfl (fun _ => ?_) (fun _ => ?_)))
  refine DW_pure rfl rfl rfl rfl rfl (litePrefix_ok s p) ?_
  repeat' (first | (show DW _ _ _ _ _ _ _ _; first | refine DW_A tabs rfl ?_ | refine DW_nil ?_ | refine DW_lits tabOK rfl rfl rfl rfl rfl rfl rfl rfl rfl rfl rfl rfl rfl ?_ | refine DW_append_own tabOK rfl rfl rfl rfl rfl rfl rfl rfl rfl rfl rfl rfl rfl rfl rfl (by simp; omega) (by simp; omega) ?_) | (show W _ _ _ _ _ _; first | refine W_seq ?_ | refine W_text rfl (fun _ _ _ h => h) ?_ | refine W_block ?_ | refine W_skip ?_ | refine W_exit ?_ | refine W_ret ?_ | refine W_true rfl ?_ | refine W_false rfl ?_ | refine W_cond rfl (fun _ => ?_) (fun _ => ?_)))
  exact ⟨rfl, _, rfl, rfl, rfl⟩
end Go.Proofs.YteimhnedflbkmaaDoor
