/- The law at its arguments, walked by the kernel -/
import Derived.Test.YthkclhpmnjnnfaaGreatHLFx
set_option linter.unusedVariables false
set_option linter.unusedSimpArgs false
namespace Go.Den
open Go
set_option maxRecDepth 1000000
theorem m3_0 : isV (runI E_2 100000 5 [.int .i64 3, .str [102]]) (.bool true) = true := by decide +kernel
theorem g3_0 : Gives Go.Proofs.Tryz.prog 5 [.int .i64 3, .str [102]] (.bool true) := (runI_gives ok2 (isV_eq m3_0)).1
theorem m3_1 : isV (runI E_2 100000 5 [.int .i64 3, .str [100]]) (.bool true) = true := by decide +kernel
theorem g3_1 : Gives Go.Proofs.Tryz.prog 5 [.int .i64 3, .str [100]] (.bool true) := (runI_gives ok2 (isV_eq m3_1)).1
theorem m3_2 : isV (runI E_2 100000 5 [.int .i64 3, .str [115]]) (.bool true) = true := by decide +kernel
theorem g3_2 : Gives Go.Proofs.Tryz.prog 5 [.int .i64 3, .str [115]] (.bool true) := (runI_gives ok2 (isV_eq m3_2)).1
theorem m3_3 : isV (runI E_2 100000 5 [.int .i64 3, .str [113]]) (.bool true) = true := by decide +kernel
theorem g3_3 : Gives Go.Proofs.Tryz.prog 5 [.int .i64 3, .str [113]] (.bool true) := (runI_gives ok2 (isV_eq m3_3)).1
end Go.Den
