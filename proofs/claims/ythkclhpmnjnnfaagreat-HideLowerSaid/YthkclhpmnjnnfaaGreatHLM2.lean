/- The law at its arguments, walked by the kernel -/
import Derived.Test.YthkclhpmnjnnfaaGreatHLFx
set_option linter.unusedVariables false
set_option linter.unusedSimpArgs false
namespace Go.Den
open Go
set_option maxRecDepth 1000000
theorem m2_0 : isV (runI E_2 100000 5 [.int .i64 2, .str [102]]) (.bool true) = true := by decide +kernel
theorem g2_0 : Gives Go.Proofs.Tryz.prog 5 [.int .i64 2, .str [102]] (.bool true) := (runI_gives ok2 (isV_eq m2_0)).1
theorem m2_1 : isV (runI E_2 100000 5 [.int .i64 2, .str [100]]) (.bool true) = true := by decide +kernel
theorem g2_1 : Gives Go.Proofs.Tryz.prog 5 [.int .i64 2, .str [100]] (.bool true) := (runI_gives ok2 (isV_eq m2_1)).1
theorem m2_2 : isV (runI E_2 100000 5 [.int .i64 2, .str [115]]) (.bool true) = true := by decide +kernel
theorem g2_2 : Gives Go.Proofs.Tryz.prog 5 [.int .i64 2, .str [115]] (.bool true) := (runI_gives ok2 (isV_eq m2_2)).1
theorem m2_3 : isV (runI E_2 100000 5 [.int .i64 2, .str [113]]) (.bool true) = true := by decide +kernel
theorem g2_3 : Gives Go.Proofs.Tryz.prog 5 [.int .i64 2, .str [113]] (.bool true) := (runI_gives ok2 (isV_eq m2_3)).1
end Go.Den
