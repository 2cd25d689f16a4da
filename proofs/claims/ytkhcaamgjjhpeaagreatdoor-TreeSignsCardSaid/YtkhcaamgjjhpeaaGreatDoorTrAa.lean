/-
  Texts as programs: the document's examples.
-/
import Derived.Test.YtkhcaamgjjhpeaaGreatDoorTrM
set_option linter.unusedSectionVars false
namespace Go.Avm
open Go.Proofs
set_option maxRecDepth 100000 in
theorem awP2 : Pure Tryz.prog 9 [.str [102, 110, 32, 102, 40, 32]] [.agg [.ro []], .int .i64 6, .int .i64 4] :=
  pure_of_execB okP named (fun _ _ => false) (fun g => g == 9) signsM 100000 (by kernel_rfl)
set_option maxRecDepth 100000 in
theorem awP1 : Pure Tryz.prog 9 [.str [102, 110, 32, 109, 97, 105, 110, 40, 41, 58, 32, 105, 110, 116, 32, 123, 32, 114, 101, 116, 117, 114, 110, 32, 49, 32, 43, 32, 50, 32, 42, 32, 51, 59, 32, 125]] [.agg [.ro [.agg [.str [109, 97, 105, 110], .ro [], .int .u8 1, .ro [.agg [.int .u8 6, .int .i64 1, .str [], .int .u8 0, .int .i64 0, .int .i64 17, .ro [.agg [.int .u8 9, .int .u8 1, .str [], .int .i64 0, .int .i64 26, .ro [.agg [.int .u8 1, .int .u8 0, .str [], .int .i64 1, .int .i64 24, .ro []], .agg [.int .u8 9, .int .u8 3, .str [], .int .i64 0, .int .i64 30, .ro [.agg [.int .u8 1, .int .u8 0, .str [], .int .i64 2, .int .i64 28, .ro []], .agg [.int .u8 1, .int .u8 0, .str [], .int .i64 3, .int .i64 32, .ro []]]]]]], .ro [], .ro []]], .int .i64 0]]], .int .i64 0, .int .i64 0] :=
  pure_of_execB okP named (fun _ _ => false) (fun g => g == 9) signsM 100000 (by kernel_rfl)
end Go.Avm
