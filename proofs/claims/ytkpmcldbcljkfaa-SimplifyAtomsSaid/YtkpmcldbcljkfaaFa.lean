/- Closed facts of the program: types, sizes, functions. Conditions: none. Written by the program wip/gen. -/
import Derived.Test.YtkpmcldbcljkfaaProg
import Derived.Test.YtkpmcldbcljkfaaRtW
import Derived.Test.YtkpmcldbcljkfaaPlJ
set_option linter.unusedVariables false
set_option linter.unusedSimpArgs false
set_option maxRecDepth 100000
set_option maxHeartbeats 4000000
namespace Go.Proofs.Ytkpmcldbcljkfaa
open Go Go.RowKit Go.Rt
theorem mo : Try.prog.follows .mixedOrders = true := by kernel_rfl
theorem ac4_31 : arC4 Try.prog 31 = some 30 := by kernel_rfl
theorem ag25 : aggB Try.prog 25 = some 2 := by kernel_rfl
theorem ag28 : aggB Try.prog 28 = some 4 := by kernel_rfl
theorem ag31 : aggB Try.prog 31 = some 4 := by kernel_rfl
theorem ag37 : aggB Try.prog 37 = some 7 := by kernel_rfl
theorem ag61 : aggB Try.prog 61 = some 4 := by kernel_rfl
theorem ag63 : aggB Try.prog 63 = some 6 := by kernel_rfl
theorem ar4_61 : arB4 Try.prog 61 = some 3 := by kernel_rfl
theorem fd25_0 : fdB Try.prog 25 0 = some (0, 4) := by kernel_rfl
theorem fd25_1 : fdB Try.prog 25 1 = some (1, 23) := by kernel_rfl
theorem fd28_0 : fdB Try.prog 28 0 = some (0, 3) := by kernel_rfl
theorem fd28_1 : fdB Try.prog 28 1 = some (1, 25) := by kernel_rfl
theorem fd28_2 : fdB Try.prog 28 2 = some (3, 26) := by kernel_rfl
theorem fd37_0 : fdB Try.prog 37 0 = some (0, 3) := by kernel_rfl
theorem fd37_1 : fdB Try.prog 37 1 = some (1, 34) := by kernel_rfl
theorem fd37_2 : fdB Try.prog 37 2 = some (2, 28) := by kernel_rfl
theorem fd37_3 : fdB Try.prog 37 3 = some (6, 35) := by kernel_rfl
theorem fd63_0 : fdB Try.prog 63 0 = some (0, 25) := by kernel_rfl
theorem fd63_1 : fdB Try.prog 63 1 = some (2, 61) := by kernel_rfl
theorem fn10 : fnB Try.prog 10 = true := by kernel_rfl
theorem fn11 : fnB Try.prog 11 = true := by kernel_rfl
theorem fn12 : fnB Try.prog 12 = true := by kernel_rfl
theorem fn13 : fnB Try.prog 13 = true := by kernel_rfl
theorem fn14 : fnB Try.prog 14 = true := by kernel_rfl
theorem fn15 : fnB Try.prog 15 = true := by kernel_rfl
theorem fn18 : fnB Try.prog 18 = true := by kernel_rfl
theorem fn19 : fnB Try.prog 19 = true := by kernel_rfl
theorem fn20 : fnB Try.prog 20 = true := by kernel_rfl
theorem fn21 : fnB Try.prog 21 = true := by kernel_rfl
theorem fn22 : fnB Try.prog 22 = true := by kernel_rfl
theorem fn23 : fnB Try.prog 23 = true := by kernel_rfl
theorem fn24 : fnB Try.prog 24 = true := by kernel_rfl
theorem fn25 : fnB Try.prog 25 = true := by kernel_rfl
theorem fn26 : fnB Try.prog 26 = true := by kernel_rfl
theorem fn27 : fnB Try.prog 27 = true := by kernel_rfl
theorem fn28 : fnB Try.prog 28 = true := by kernel_rfl
theorem fn29 : fnB Try.prog 29 = true := by kernel_rfl
theorem fn30 : fnB Try.prog 30 = true := by kernel_rfl
theorem fn31 : fnB Try.prog 31 = true := by kernel_rfl
theorem fn32 : fnB Try.prog 32 = true := by kernel_rfl
theorem fn33 : fnB Try.prog 33 = true := by kernel_rfl
theorem fn34 : fnB Try.prog 34 = true := by kernel_rfl
theorem fn35 : fnB Try.prog 35 = true := by kernel_rfl
theorem fn36 : fnB Try.prog 36 = true := by kernel_rfl
theorem fn37 : fnB Try.prog 37 = true := by kernel_rfl
theorem fn38 : fnB Try.prog 38 = true := by kernel_rfl
theorem fn39 : fnB Try.prog 39 = true := by kernel_rfl
theorem fn40 : fnB Try.prog 40 = true := by kernel_rfl
theorem fn41 : fnB Try.prog 41 = true := by kernel_rfl
theorem fn42 : fnB Try.prog 42 = true := by kernel_rfl
theorem fn43 : fnB Try.prog 43 = true := by kernel_rfl
theorem fn44 : fnB Try.prog 44 = true := by kernel_rfl
theorem fn45 : fnB Try.prog 45 = true := by kernel_rfl
theorem fn46 : fnB Try.prog 46 = true := by kernel_rfl
theorem fn47 : fnB Try.prog 47 = true := by kernel_rfl
theorem fn48 : fnB Try.prog 48 = true := by kernel_rfl
theorem fn49 : fnB Try.prog 49 = true := by kernel_rfl
theorem fn5 : fnB Try.prog 5 = true := by kernel_rfl
theorem fn51 : fnB Try.prog 51 = true := by kernel_rfl
theorem fn52 : fnB Try.prog 52 = true := by kernel_rfl
theorem fn53 : fnB Try.prog 53 = true := by kernel_rfl
theorem fn54 : fnB Try.prog 54 = true := by kernel_rfl
theorem fn55 : fnB Try.prog 55 = true := by kernel_rfl
theorem fn56 : fnB Try.prog 56 = true := by kernel_rfl
theorem fn57 : fnB Try.prog 57 = true := by kernel_rfl
theorem fn58 : fnB Try.prog 58 = true := by kernel_rfl
theorem fn59 : fnB Try.prog 59 = true := by kernel_rfl
theorem fn6 : fnB Try.prog 6 = true := by kernel_rfl
theorem fn60 : fnB Try.prog 60 = true := by kernel_rfl
theorem fn61 : fnB Try.prog 61 = true := by kernel_rfl
theorem fn62 : fnB Try.prog 62 = true := by kernel_rfl
theorem fn63 : fnB Try.prog 63 = true := by kernel_rfl
theorem fn64 : fnB Try.prog 64 = true := by kernel_rfl
theorem fn65 : fnB Try.prog 65 = true := by kernel_rfl
theorem fn66 : fnB Try.prog 66 = true := by kernel_rfl
theorem fn67 : fnB Try.prog 67 = true := by kernel_rfl
theorem fn68 : fnB Try.prog 68 = true := by kernel_rfl
theorem fn69 : fnB Try.prog 69 = true := by kernel_rfl
theorem fn7 : fnB Try.prog 7 = true := by kernel_rfl
theorem fn70 : fnB Try.prog 70 = true := by kernel_rfl
theorem fn71 : fnB Try.prog 71 = true := by kernel_rfl
theorem fn72 : fnB Try.prog 72 = true := by kernel_rfl
theorem fn73 : fnB Try.prog 73 = true := by kernel_rfl
theorem fn74 : fnB Try.prog 74 = true := by kernel_rfl
theorem fn75 : fnB Try.prog 75 = true := by kernel_rfl
theorem fn76 : fnB Try.prog 76 = true := by kernel_rfl
theorem fn77 : fnB Try.prog 77 = true := by kernel_rfl
theorem fn78 : fnB Try.prog 78 = true := by kernel_rfl
theorem fn79 : fnB Try.prog 79 = true := by kernel_rfl
theorem fn8 : fnB Try.prog 8 = true := by kernel_rfl
theorem fn80 : fnB Try.prog 80 = true := by kernel_rfl
theorem fn81 : fnB Try.prog 81 = true := by kernel_rfl
theorem fn82 : fnB Try.prog 82 = true := by kernel_rfl
theorem fn83 : fnB Try.prog 83 = true := by kernel_rfl
theorem fn84 : fnB Try.prog 84 = true := by kernel_rfl
theorem fn85 : fnB Try.prog 85 = true := by kernel_rfl
theorem fn86 : fnB Try.prog 86 = true := by kernel_rfl
theorem fn87 : fnB Try.prog 87 = true := by kernel_rfl
theorem fn88 : fnB Try.prog 88 = true := by kernel_rfl
theorem fn89 : fnB Try.prog 89 = true := by kernel_rfl
theorem fn9 : fnB Try.prog 9 = true := by kernel_rfl
theorem fn90 : fnB Try.prog 90 = true := by kernel_rfl
theorem fn91 : fnB Try.prog 91 = true := by kernel_rfl
theorem fn93 : fnB Try.prog 93 = true := by kernel_rfl
theorem pl25 : plB Try.prog 25 = some ([(0, 1), (1, 1)], [.bool false, .slice none 0 0]) := by kernel_rfl
theorem pl28 : plB Try.prog 28 = some ([(0, 1), (1, 2), (3, 1)], [.int .i64 0, .bool false, .slice none 0 0, .slice none 0 0]) := by kernel_rfl
theorem pl37 : plB Try.prog 37 = some ([(0, 1), (1, 1), (2, 4), (6, 1)], [.int .i64 0, .int .i64 0, .int .i64 0, .bool false, .slice none 0 0, .slice none 0 0, .slice none 0 0]) := by kernel_rfl
theorem pl63 : plB Try.prog 63 = some ([(0, 2), (2, 4)], [.bool false, .slice none 0 0, .int .i64 0, .int .i64 0, .int .i64 0, .int .i64 0]) := by kernel_rfl
theorem sc23 : scalB Try.prog 23 = true := by kernel_rfl
theorem sc26 : scalB Try.prog 26 = true := by kernel_rfl
theorem sc3 : scalB Try.prog 3 = true := by kernel_rfl
theorem sc30 : scalB Try.prog 30 = true := by kernel_rfl
theorem sc34 : scalB Try.prog 34 = true := by kernel_rfl
theorem sc35 : scalB Try.prog 35 = true := by kernel_rfl
theorem sc4 : scalB Try.prog 4 = true := by kernel_rfl
theorem sc65 : scalB Try.prog 65 = true := by kernel_rfl
theorem sc86 : scalB Try.prog 86 = true := by kernel_rfl
theorem sl112 : slB Try.prog 112 = some (26, 1, 24) := by kernel_rfl
theorem sl23 : slB Try.prog 23 = some (86, 1, 4) := by kernel_rfl
theorem sl26 : slB Try.prog 26 = some (28, 4, 64) := by kernel_rfl
theorem sl35 : slB Try.prog 35 = some (37, 7, 104) := by kernel_rfl
theorem sl39 : slB Try.prog 39 = some (25, 2, 32) := by kernel_rfl
theorem sl64 : slB Try.prog 64 = some (63, 6, 64) := by kernel_rfl
theorem sl65 : slB Try.prog 65 = some (63, 6, 64) := by kernel_rfl
theorem sl97 : slB Try.prog 97 = some (3, 1, 8) := by kernel_rfl
theorem sz25 : szB Try.prog 25 = some 2 := by kernel_rfl
theorem sz28 : szB Try.prog 28 = some 4 := by kernel_rfl
theorem sz3 : szB Try.prog 3 = some 1 := by kernel_rfl
theorem sz37 : szB Try.prog 37 = some 7 := by kernel_rfl
theorem sz61 : szB Try.prog 61 = some 4 := by kernel_rfl
theorem sz63 : szB Try.prog 63 = some 6 := by kernel_rfl
theorem sz65 : szB Try.prog 65 = some 1 := by kernel_rfl
theorem sz86 : szB Try.prog 86 = some 1 := by kernel_rfl
theorem un2 : Try.prog.underlying 2 = some (.int .i64) := by kernel_rfl
theorem un3 : Try.prog.underlying 3 = some (.int .i64) := by kernel_rfl
theorem un34 : Try.prog.underlying 34 = some (.int .i64) := by kernel_rfl
theorem un4 : Try.prog.underlying 4 = some (.bool) := by kernel_rfl
theorem un5 : Try.prog.underlying 5 = some (.int .u8) := by kernel_rfl
theorem un67 : Try.prog.underlying 67 = some (.int .u64) := by kernel_rfl
theorem un80 : Try.prog.underlying 80 = some (.int .u64) := by kernel_rfl
theorem un86 : Try.prog.underlying 86 = some (.int .u32) := by kernel_rfl
theorem zr25 : zeroB Try.prog 25 = some (.agg #[.bool false, .slice none 0 0]) := by kernel_rfl
theorem zr26 : zeroB Try.prog 26 = some (.slice none 0 0) := by kernel_rfl
theorem zr28 : zeroB Try.prog 28 = some (.agg #[.int .i64 0, .bool false, .slice none 0 0, .slice none 0 0]) := by kernel_rfl
theorem zr37 : zeroB Try.prog 37 = some (.agg #[.int .i64 0, .int .i64 0, .int .i64 0, .bool false, .slice none 0 0, .slice none 0 0, .slice none 0 0]) := by kernel_rfl
theorem zr61 : zeroB Try.prog 61 = some (.agg #[.int .i64 0, .int .i64 0, .int .i64 0, .int .i64 0]) := by kernel_rfl
theorem zr63 : zeroB Try.prog 63 = some (.agg #[.bool false, .slice none 0 0, .int .i64 0, .int .i64 0, .int .i64 0, .int .i64 0]) := by kernel_rfl
theorem zr65 : zeroB Try.prog 65 = some (.slice none 0 0) := by kernel_rfl
theorem zr86 : zeroB Try.prog 86 = some (.int .u32 0) := by kernel_rfl
end Go.Proofs.Ytkpmcldbcljkfaa
