/- Closed facts of the program: types, sizes, functions. Conditions: none. Written by the program wip/gen. -/
import Derived.Test.YtcbnpddeiaccbaaProg
import Derived.Test.YtcbnpddeiaccbaaL4
set_option linter.unusedVariables false
set_option linter.unusedSimpArgs false
set_option maxRecDepth 100000
set_option maxHeartbeats 4000000
namespace Go.Proofs.Ytcbnpddeiaccbaa
open Go Go.RowKit Go.Rt
theorem mo : Try.prog.follows .mixedOrders = true := by kernel_rfl
theorem ag25 : aggB Try.prog 25 = some 2 := by kernel_rfl
theorem Z9 : aggB Try.prog 28 = some 4 := by kernel_rfl
theorem ag95 : aggB Try.prog 95 = some 4 := by kernel_rfl
theorem ag97 : aggB Try.prog 97 = some 6 := by kernel_rfl
theorem ar4_95 : arB4 Try.prog 95 = some 3 := by kernel_rfl
theorem fd25_0 : fdB Try.prog 25 0 = some (0, 4) := by kernel_rfl
theorem fd25_1 : fdB Try.prog 25 1 = some (1, 23) := by kernel_rfl
theorem T1 : fdB Try.prog 28 0 = some (0, 3) := by kernel_rfl
theorem fd28_1 : fdB Try.prog 28 1 = some (1, 25) := by kernel_rfl
theorem fd28_2 : fdB Try.prog 28 2 = some (3, 26) := by kernel_rfl
theorem fd97_0 : fdB Try.prog 97 0 = some (0, 25) := by kernel_rfl
theorem fd97_1 : fdB Try.prog 97 1 = some (2, 95) := by kernel_rfl
theorem fn100 : fnB Try.prog 100 = true := by kernel_rfl
theorem fn101 : fnB Try.prog 101 = true := by kernel_rfl
theorem fn102 : fnB Try.prog 102 = true := by kernel_rfl
theorem fn103 : fnB Try.prog 103 = true := by kernel_rfl
theorem fn104 : fnB Try.prog 104 = true := by kernel_rfl
theorem fn105 : fnB Try.prog 105 = true := by kernel_rfl
theorem fn106 : fnB Try.prog 106 = true := by kernel_rfl
theorem fn107 : fnB Try.prog 107 = true := by kernel_rfl
theorem fn108 : fnB Try.prog 108 = true := by kernel_rfl
theorem fn109 : fnB Try.prog 109 = true := by kernel_rfl
theorem fn110 : fnB Try.prog 110 = true := by kernel_rfl
theorem fn111 : fnB Try.prog 111 = true := by kernel_rfl
theorem fn112 : fnB Try.prog 112 = true := by kernel_rfl
theorem fn113 : fnB Try.prog 113 = true := by kernel_rfl
theorem fn114 : fnB Try.prog 114 = true := by kernel_rfl
theorem fn115 : fnB Try.prog 115 = true := by kernel_rfl
theorem fn116 : fnB Try.prog 116 = true := by kernel_rfl
theorem fn117 : fnB Try.prog 117 = true := by kernel_rfl
theorem fn118 : fnB Try.prog 118 = true := by kernel_rfl
theorem fn119 : fnB Try.prog 119 = true := by kernel_rfl
theorem fn120 : fnB Try.prog 120 = true := by kernel_rfl
theorem fn121 : fnB Try.prog 121 = true := by kernel_rfl
theorem fn122 : fnB Try.prog 122 = true := by kernel_rfl
theorem fn123 : fnB Try.prog 123 = true := by kernel_rfl
theorem fn124 : fnB Try.prog 124 = true := by kernel_rfl
theorem fn125 : fnB Try.prog 125 = true := by kernel_rfl
theorem fn126 : fnB Try.prog 126 = true := by kernel_rfl
theorem fn127 : fnB Try.prog 127 = true := by kernel_rfl
theorem fn128 : fnB Try.prog 128 = true := by kernel_rfl
theorem fn129 : fnB Try.prog 129 = true := by kernel_rfl
theorem fn130 : fnB Try.prog 130 = true := by kernel_rfl
theorem fn131 : fnB Try.prog 131 = true := by kernel_rfl
theorem fn132 : fnB Try.prog 132 = true := by kernel_rfl
theorem fn133 : fnB Try.prog 133 = true := by kernel_rfl
theorem fn134 : fnB Try.prog 134 = true := by kernel_rfl
theorem fn135 : fnB Try.prog 135 = true := by kernel_rfl
theorem fn136 : fnB Try.prog 136 = true := by kernel_rfl
theorem fn137 : fnB Try.prog 137 = true := by kernel_rfl
theorem fn138 : fnB Try.prog 138 = true := by kernel_rfl
theorem fn140 : fnB Try.prog 140 = true := by kernel_rfl
theorem fn21 : fnB Try.prog 21 = true := by kernel_rfl
theorem fn25 : fnB Try.prog 25 = true := by kernel_rfl
theorem fn26 : fnB Try.prog 26 = true := by kernel_rfl
theorem fn27 : fnB Try.prog 27 = true := by kernel_rfl
theorem fn28 : fnB Try.prog 28 = true := by kernel_rfl
theorem fn29 : fnB Try.prog 29 = true := by kernel_rfl
theorem fn30 : fnB Try.prog 30 = true := by kernel_rfl
theorem fn31 : fnB Try.prog 31 = true := by kernel_rfl
theorem fn32 : fnB Try.prog 32 = true := by kernel_rfl
theorem fn33 : fnB Try.prog 33 = true := by kernel_rfl
theorem fn35 : fnB Try.prog 35 = true := by kernel_rfl
theorem fn36 : fnB Try.prog 36 = true := by kernel_rfl
theorem fn37 : fnB Try.prog 37 = true := by kernel_rfl
theorem fn38 : fnB Try.prog 38 = true := by kernel_rfl
theorem fn40 : fnB Try.prog 40 = true := by kernel_rfl
theorem fn41 : fnB Try.prog 41 = true := by kernel_rfl
theorem fn42 : fnB Try.prog 42 = true := by kernel_rfl
theorem fn43 : fnB Try.prog 43 = true := by kernel_rfl
theorem fn45 : fnB Try.prog 45 = true := by kernel_rfl
theorem fn54 : fnB Try.prog 54 = true := by kernel_rfl
theorem fn55 : fnB Try.prog 55 = true := by kernel_rfl
theorem fn61 : fnB Try.prog 61 = true := by kernel_rfl
theorem fn66 : fnB Try.prog 66 = true := by kernel_rfl
theorem fn68 : fnB Try.prog 68 = true := by kernel_rfl
theorem fn69 : fnB Try.prog 69 = true := by kernel_rfl
theorem fn70 : fnB Try.prog 70 = true := by kernel_rfl
theorem fn71 : fnB Try.prog 71 = true := by kernel_rfl
theorem fn72 : fnB Try.prog 72 = true := by kernel_rfl
theorem fn73 : fnB Try.prog 73 = true := by kernel_rfl
theorem fn74 : fnB Try.prog 74 = true := by kernel_rfl
theorem fn75 : fnB Try.prog 75 = true := by kernel_rfl
theorem fn76 : fnB Try.prog 76 = true := by kernel_rfl
theorem fn77 : fnB Try.prog 77 = true := by kernel_rfl
theorem fn78 : fnB Try.prog 78 = true := by kernel_rfl
theorem fn79 : fnB Try.prog 79 = true := by kernel_rfl
theorem fn80 : fnB Try.prog 80 = true := by kernel_rfl
theorem fn81 : fnB Try.prog 81 = true := by kernel_rfl
theorem fn82 : fnB Try.prog 82 = true := by kernel_rfl
theorem fn83 : fnB Try.prog 83 = true := by kernel_rfl
theorem fn84 : fnB Try.prog 84 = true := by kernel_rfl
theorem fn86 : fnB Try.prog 86 = true := by kernel_rfl
theorem fn88 : fnB Try.prog 88 = true := by kernel_rfl
theorem fn89 : fnB Try.prog 89 = true := by kernel_rfl
theorem fn90 : fnB Try.prog 90 = true := by kernel_rfl
theorem fn91 : fnB Try.prog 91 = true := by kernel_rfl
theorem fn92 : fnB Try.prog 92 = true := by kernel_rfl
theorem fn93 : fnB Try.prog 93 = true := by kernel_rfl
theorem fn95 : fnB Try.prog 95 = true := by kernel_rfl
theorem fn96 : fnB Try.prog 96 = true := by kernel_rfl
theorem fn97 : fnB Try.prog 97 = true := by kernel_rfl
theorem fn99 : fnB Try.prog 99 = true := by kernel_rfl
theorem pl25 : plB Try.prog 25 = some ([(0, 1), (1, 1)], [.bool false, .slice none 0 0]) := by kernel_rfl
theorem pl28 : plB Try.prog 28 = some ([(0, 1), (1, 2), (3, 1)], [.int .i64 0, .bool false, .slice none 0 0, .slice none 0 0]) := by kernel_rfl
theorem pl97 : plB Try.prog 97 = some ([(0, 2), (2, 4)], [.bool false, .slice none 0 0, .int .i64 0, .int .i64 0, .int .i64 0, .int .i64 0]) := by kernel_rfl
theorem sc128 : scalB Try.prog 128 = true := by kernel_rfl
theorem sc23 : scalB Try.prog 23 = true := by kernel_rfl
theorem sc26 : scalB Try.prog 26 = true := by kernel_rfl
theorem sc3 : scalB Try.prog 3 = true := by kernel_rfl
theorem sc4 : scalB Try.prog 4 = true := by kernel_rfl
theorem sc54 : scalB Try.prog 54 = true := by kernel_rfl
theorem sl141 : slB Try.prog 141 = some (3, 1, 8) := by kernel_rfl
theorem sl151 : slB Try.prog 151 = some (26, 1, 24) := by kernel_rfl
theorem V9 : slB Try.prog 23 = some (128, 1, 4) := by kernel_rfl
theorem W5 : slB Try.prog 26 = some (28, 4, 64) := by kernel_rfl
theorem sl53 : slB Try.prog 53 = some (97, 6, 64) := by kernel_rfl
theorem R3 : slB Try.prog 54 = some (97, 6, 64) := by kernel_rfl
theorem sz128 : szB Try.prog 128 = some 1 := by kernel_rfl
theorem sz25 : szB Try.prog 25 = some 2 := by kernel_rfl
theorem U4 : szB Try.prog 28 = some 4 := by kernel_rfl
theorem sz3 : szB Try.prog 3 = some 1 := by kernel_rfl
theorem sz54 : szB Try.prog 54 = some 1 := by kernel_rfl
theorem sz95 : szB Try.prog 95 = some 4 := by kernel_rfl
theorem sz97 : szB Try.prog 97 = some 6 := by kernel_rfl
theorem un116 : Try.prog.underlying 116 = some (.int .u64) := by kernel_rfl
theorem un128 : Try.prog.underlying 128 = some (.int .u32) := by kernel_rfl
theorem un3 : Try.prog.underlying 3 = some (.int .i64) := by kernel_rfl
theorem un4 : Try.prog.underlying 4 = some (.bool) := by kernel_rfl
theorem un5 : Try.prog.underlying 5 = some (.int .u8) := by kernel_rfl
theorem un99 : Try.prog.underlying 99 = some (.int .u64) := by kernel_rfl
theorem zr128 : zeroB Try.prog 128 = some (.int .u32 0) := by kernel_rfl
theorem zr25 : zeroB Try.prog 25 = some (.agg #[.bool false, .slice none 0 0]) := by kernel_rfl
theorem zr26 : zeroB Try.prog 26 = some (.slice none 0 0) := by kernel_rfl
theorem W9 : zeroB Try.prog 28 = some (.agg #[.int .i64 0, .bool false, .slice none 0 0, .slice none 0 0]) := by kernel_rfl
theorem zr54 : zeroB Try.prog 54 = some (.slice none 0 0) := by kernel_rfl
theorem zr95 : zeroB Try.prog 95 = some (.agg #[.int .i64 0, .int .i64 0, .int .i64 0, .int .i64 0]) := by kernel_rfl
theorem zr97 : zeroB Try.prog 97 = some (.agg #[.bool false, .slice none 0 0, .int .i64 0, .int .i64 0, .int .i64 0, .int .i64 0]) := by kernel_rfl
end Go.Proofs.Ytcbnpddeiaccbaa
