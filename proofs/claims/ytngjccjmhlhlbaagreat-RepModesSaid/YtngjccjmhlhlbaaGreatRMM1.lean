/- The law at its arguments, walked by the kernel -/
import Derived.Test.YtngjccjmhlhlbaaGreatRMFx
set_option linter.unusedVariables false
set_option linter.unusedSimpArgs false
set_option linter.unusedSectionVars false
namespace Go.Den
open Go
set_option maxRecDepth 1000000
variable [Val]
theorem m1 : isV (runI E_0 100000 3 [.sym (.int 0 0 0 511), .sym (.int 2 0 0 511)]) (.bool true) = true := by decide +kernel
theorem g1 : Gives Go.Proofs.Tryz.prog 3 [.sym (.int 0 0 0 511), .sym (.int 2 0 0 511)] (.bool true) := (runI_gives ok0 (isV_eq m1)).1
end Go.Den
