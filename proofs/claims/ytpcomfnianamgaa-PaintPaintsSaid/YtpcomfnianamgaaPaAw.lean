/-
  Paint: the document's examples.
-/
import Derived.Test.YtpcomfnianamgaaPaA
set_option linter.unusedSectionVars false
namespace Go.Avm
open Go.Proofs
set_option maxRecDepth 100000 in
theorem awake17 : Pure Try.prog 30 [] [.bool true] :=
  pure_true okP named obmP (fun g => g == 68) 100000 (by kernel_rfl)
end Go.Avm
