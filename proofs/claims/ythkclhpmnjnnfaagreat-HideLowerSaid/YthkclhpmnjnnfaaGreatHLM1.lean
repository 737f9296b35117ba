/- The law at its arguments, walked by the kernel -/
import Derived.Test.YthkclhpmnjnnfaaGreatHLFx
set_option linter.unusedVariables false
set_option linter.unusedSimpArgs false
namespace Go.Den
open Go
set_option maxRecDepth 1000000
theorem m1_0 : isV (runI E_2 100000 5 [.int .i64 1, .str [102]]) (.bool true) = true := by decide +kernel
theorem g1_0 : Gives Go.Proofs.Tryz.prog 5 [.int .i64 1, .str [102]] (.bool true) := (runI_gives ok2 (isV_eq m1_0)).1
theorem m1_1 : isV (runI E_2 100000 5 [.int .i64 1, .str [100]]) (.bool true) = true := by decide +kernel
theorem g1_1 : Gives Go.Proofs.Tryz.prog 5 [.int .i64 1, .str [100]] (.bool true) := (runI_gives ok2 (isV_eq m1_1)).1
theorem m1_2 : isV (runI E_2 100000 5 [.int .i64 1, .str [115]]) (.bool true) = true := by decide +kernel
theorem g1_2 : Gives Go.Proofs.Tryz.prog 5 [.int .i64 1, .str [115]] (.bool true) := (runI_gives ok2 (isV_eq m1_2)).1
theorem m1_3 : isV (runI E_2 100000 5 [.int .i64 1, .str [113]]) (.bool true) = true := by decide +kernel
theorem g1_3 : Gives Go.Proofs.Tryz.prog 5 [.int .i64 1, .str [113]] (.bool true) := (runI_gives ok2 (isV_eq m1_3)).1
end Go.Den
