/- The law at its arguments, walked by the kernel -/
import Derived.Test.YthkclhpmnjnnfaaGreatHNFx
set_option linter.unusedVariables false
set_option linter.unusedSimpArgs false
namespace Go.Den
open Go
set_option maxRecDepth 1000000
theorem m2_0 : isV (runI E_2 100000 4 [.int .i64 2, .int .i64 0]) (.bool true) = true := by decide +kernel
theorem g2_0 : Gives Go.Proofs.Tryz.prog 4 [.int .i64 2, .int .i64 0] (.bool true) := (runI_gives ok2 (isV_eq m2_0)).1
theorem m2_1 : isV (runI E_2 100000 4 [.int .i64 2, .int .i64 1]) (.bool true) = true := by decide +kernel
theorem g2_1 : Gives Go.Proofs.Tryz.prog 4 [.int .i64 2, .int .i64 1] (.bool true) := (runI_gives ok2 (isV_eq m2_1)).1
theorem m2_2 : isV (runI E_2 100000 4 [.int .i64 2, .int .i64 2]) (.bool true) = true := by decide +kernel
theorem g2_2 : Gives Go.Proofs.Tryz.prog 4 [.int .i64 2, .int .i64 2] (.bool true) := (runI_gives ok2 (isV_eq m2_2)).1
theorem m2_3 : isV (runI E_2 100000 4 [.int .i64 2, .int .i64 3]) (.bool true) = true := by decide +kernel
theorem g2_3 : Gives Go.Proofs.Tryz.prog 4 [.int .i64 2, .int .i64 3] (.bool true) := (runI_gives ok2 (isV_eq m2_3)).1
end Go.Den
