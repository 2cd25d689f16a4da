/-
  Texts as programs: the document's examples.
-/
import Derived.Test.YtkhcaamgjjhpeaaGreatDoorTrAa
import Derived.Test.YtkhcaamgjjhpeaaGreatDoorTrAb
import Derived.Test.YtkhcaamgjjhpeaaGreatDoorAvmT
set_option linter.unusedSectionVars false
namespace Go.Avm
open Go.Proofs
set_option maxRecDepth 100000 in
theorem awS1 : Pure Tryz.prog 25 [.agg [.ro [.agg [.str [109, 97, 105, 110], .ro [], .int .u8 1, .ro [.agg [.int .u8 6, .int .i64 1, .str [], .int .u8 0, .int .i64 0, .int .i64 17, .ro [.agg [.int .u8 9, .int .u8 1, .str [], .int .i64 0, .int .i64 26, .ro [.agg [.int .u8 1, .int .u8 0, .str [], .int .i64 1, .int .i64 24, .ro []], .agg [.int .u8 9, .int .u8 3, .str [], .int .i64 0, .int .i64 30, .ro [.agg [.int .u8 1, .int .u8 0, .str [], .int .i64 2, .int .i64 28, .ro []], .agg [.int .u8 1, .int .u8 0, .str [], .int .i64 3, .int .i64 32, .ro []]]]]]], .ro [], .ro []]], .int .i64 0]]]] [.str [102, 110, 32, 109, 97, 105, 110, 40, 41, 58, 32, 105, 110, 116, 32, 123, 10, 32, 32, 114, 101, 116, 117, 114, 110, 32, 49, 32, 43, 32, 50, 32, 42, 32, 51, 59, 10, 125, 10]] :=
  pure_of_exec okP named (fun _ _ => false) (fun g => g == 9) 100000 (by kernel_rfl)
set_option maxRecDepth 100000 in
theorem awS3 : Pure Tryz.prog 25 [.agg [.ro [.agg [.str [109, 97, 105, 110], .ro [], .int .u8 1, .ro [.agg [.int .u8 6, .int .i64 1, .str [], .int .u8 0, .int .i64 0, .int .i64 17, .ro [.agg [.int .u8 9, .int .u8 2, .str [], .int .i64 0, .int .i64 32, .ro [.agg [.int .u8 9, .int .u8 2, .str [], .int .i64 0, .int .i64 27, .ro [.agg [.int .u8 1, .int .u8 0, .str [], .int .i64 1, .int .i64 25, .ro []], .agg [.int .u8 1, .int .u8 0, .str [], .int .i64 2, .int .i64 29, .ro []]]], .agg [.int .u8 9, .int .u8 2, .str [], .int .i64 0, .int .i64 37, .ro [.agg [.int .u8 1, .int .u8 0, .str [], .int .i64 3, .int .i64 35, .ro []], .agg [.int .u8 1, .int .u8 0, .str [], .int .i64 4, .int .i64 39, .ro []]]]]]], .ro [], .ro []]], .int .i64 0]]]] [.str [102, 110, 32, 109, 97, 105, 110, 40, 41, 58, 32, 105, 110, 116, 32, 123, 10, 32, 32, 114, 101, 116, 117, 114, 110, 32, 49, 32, 45, 32, 50, 32, 45, 32, 40, 51, 32, 45, 32, 52, 41, 59, 10, 125, 10]] :=
  pure_of_exec okP named (fun _ _ => false) (fun g => g == 9) 100000 (by kernel_rfl)
set_option maxRecDepth 100000 in
theorem awake02 : Pure Tryz.prog 11 [] [.bool true] :=
  pure_of_run okP named { hint := tabH Tryz.prog [(11, 11, .call 9 _ _ awP1), (11, 16, .call 9 _ _ awP2), (11, 21, .call 9 _ _ awP3), (11, 35, .call 25 _ _ awS1), (11, 52, .call 25 _ _ awS3)] } 2000 (by kernel_rfl)
end Go.Avm
