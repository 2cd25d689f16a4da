/-
  Texts as programs: the document's examples.
-/
import Derived.Test.YtkhcaamgjjhpeaaGreatDoorTrA
set_option linter.unusedSectionVars false
namespace Go.Avm
open Go.Proofs
set_option maxRecDepth 100000 in
theorem lexT3 : Pure Tryz.prog 19 [.str [102, 110, 32, 109, 97, 105, 110, 40, 41, 58, 32, 105, 110, 116, 32, 123, 32, 114, 101, 116, 117, 114, 110, 32, 40, 49, 32, 45, 32, 50, 41, 32, 45, 32, 40, 51, 32, 45, 32, 52, 41, 59, 32, 125]] [.ro [.agg [.int .u8 2, .int .i64 0, .str [102, 110], .int .i64 0], .agg [.int .u8 1, .int .i64 3, .str [109, 97, 105, 110], .int .i64 0], .agg [.int .u8 4, .int .i64 7, .str [40], .int .i64 0], .agg [.int .u8 4, .int .i64 8, .str [41], .int .i64 0], .agg [.int .u8 4, .int .i64 9, .str [58], .int .i64 0], .agg [.int .u8 2, .int .i64 11, .str [105, 110, 116], .int .i64 0], .agg [.int .u8 4, .int .i64 15, .str [123], .int .i64 0], .agg [.int .u8 2, .int .i64 17, .str [114, 101, 116, 117, 114, 110], .int .i64 0], .agg [.int .u8 4, .int .i64 24, .str [40], .int .i64 0], .agg [.int .u8 3, .int .i64 25, .str [49], .int .i64 1], .agg [.int .u8 4, .int .i64 27, .str [45], .int .i64 0], .agg [.int .u8 3, .int .i64 29, .str [50], .int .i64 2], .agg [.int .u8 4, .int .i64 30, .str [41], .int .i64 0], .agg [.int .u8 4, .int .i64 32, .str [45], .int .i64 0], .agg [.int .u8 4, .int .i64 34, .str [40], .int .i64 0], .agg [.int .u8 3, .int .i64 35, .str [51], .int .i64 3], .agg [.int .u8 4, .int .i64 37, .str [45], .int .i64 0], .agg [.int .u8 3, .int .i64 39, .str [52], .int .i64 4], .agg [.int .u8 4, .int .i64 40, .str [41], .int .i64 0], .agg [.int .u8 4, .int .i64 41, .str [59], .int .i64 0], .agg [.int .u8 4, .int .i64 43, .str [125], .int .i64 0], .agg [.int .u8 0, .int .i64 44, .str [], .int .i64 0]], .int .i64 0, .int .i64 0] :=
  pure_of_exec okP named (fun _ _ => false) (fun g => g == 9) 100000 (by kernel_rfl)
end Go.Avm
